/- Which of two keys is the lesser: digest.Less, the reference's Less. -/
import Derived.Test.YtafkcmgfkecljaaKey0
import Derived.Test.YtafkcmgfkecljaaSum1
namespace Go.Proofs.Ytafkcmgfkecljaa
set_option linter.unusedSimpArgs false
set_option linter.unusedVariables false
open Go.ChangeShapes Go.WideShapes Go.ChangeAt Go.RowKit

def lessL (x y : List UInt8) : Bool := decide (Lib.compareBytes x y < 0)
theorem Row32.vw {w : World} {b : Nat} {bs : List UInt8} (h : Row32 w b bs) (hl : bs.length = 32) : Vw w (some ⟨b, 0, none⟩) bs.length 32 1 (bvs bs) := by
  refine ⟨by simp [bvs], by omega, by decide, (fun h => by cases h), fun x hx j u hu => ?_⟩
  cases hx
  have hj : j < bs.length := by have := (List.getElem?_eq_some_iff.1 hu).1; simpa [bvs] using this
  have hc := h.cell j hj
  have e : u = bv (bs.getD j 0) := by
    simp [bvs, List.getElem?_eq_getElem hj] at hu ⊢
    exact hu.symm
  rw [e]
  have ha : (Addr.add ⟨b, 0, none⟩ j) = ⟨b, j, none⟩ := by unfold Addr.add; split <;> simp_all
  rw [ha]; exact hc
theorem Row32.upd {S : Nat → Prop} {w w' : World} {b : Nat} {bs : List UInt8} (h : Row32 w b bs) (hU : Upd S w w') (hS : ¬ S b) : Row32 w' b bs := (hU.block b (lt_of_heap h) hS).trans h
theorem compare_step {x y : List UInt8} {n : Nat} (hx : x.length = 32) (hy : y.length = 32) (hn : n < 32) :
    Lib.compareBytes (x.drop n) (y.drop n) = if x.getD n 0 < y.getD n 0 then -1 else if y.getD n 0 < x.getD n 0 then 1 else Lib.compareBytes (x.drop (n + 1)) (y.drop (n + 1)) := by
  rw [List.drop_eq_getElem_cons (show n < x.length by omega), List.drop_eq_getElem_cons (show n < y.length by omega)]
  simp [Lib.compareBytes, List.getElem?_eq_getElem (show n < x.length by omega), List.getElem?_eq_getElem (show n < y.length by omega)]

set_option maxRecDepth 100000 in
set_option maxHeartbeats 4000000 in
theorem less_any (x y : List UInt8) (w : World) (hx : x.length = 32) (hy : y.length = 32) :
    Calls Try.prog 21 #[.agg (bvs x).toArray, .agg (bvs y).toArray] w fun e w' => e = .returned (.bool (lessL x y)) ∧ Upd (fun _ => False) w w' := by
  obtain ⟨k0, hk0⟩ : ∃ k0, (bvs x).toArray = k0 := ⟨_, rfl⟩
  obtain ⟨k1, hk1⟩ : ∃ k1, (bvs y).toArray = k1 := ⟨_, rfl⟩
  have HK0 := Lib.hid hk0
  have HK1 := Lib.hid hk1
  rw [hk0, hk1]
  clear hk0 hk1
  go_enter Try.func21, Try.ntmps21
  go_upto_region 1 with (fail)
  have hU1 : Upd (fun i => w.heap.size ≤ i) w ((w.alloc (Obj.cells k0 32)).alloc (Obj.cells k1 32)) := (Upd.alloc _ _ _).trans (Upd.alloc _ _ _)
  have hR1 : Row32 ((w.alloc (Obj.cells k0 32)).alloc (Obj.cells k1 32)) w.heap.size x := by
    unfold Row32; rw [HK0.out]; exact (Below.heap_alloc _ _ _ (by simp)).trans (heap_alloc_new _ _)
  have hR2 : Row32 ((w.alloc (Obj.cells k0 32)).alloc (Obj.cells k1 32)) (w.heap.size + 1) y := by
    unfold Row32; rw [HK1.out]
    have := heap_alloc_new (w.alloc (Obj.cells k0 32)) (Obj.cells k1 32)
    simpa using this
  generalize (w.alloc (Obj.cells k0 32)).alloc (Obj.cells k1 32) = w1 at *
  refine wp_region_plan_last [([0, 1], 2)] [3, 4] (fun _ => True) (by kernel_rfl) (by kernel_rfl) trivial ?_
  iterate 2
    refine plan_take (v := ?_) rfl rfl (fun w' hS => ?_) ?_
    rotate_left
    · skip
      go_simp; try with_reducible rfl
    simp only [Act.put, List.getElem_toArray, List.getElem_cons_zero, List.getElem_cons_succ, List.setIfInBounds_toArray, List.set_cons_zero, List.set_cons_succ]
  refine plan_act rfl (fun KK hKK => ?_)
  go_wp2_with fail
  have hVx := (hR1.upd (Upd.drew (fun _ => False) _) (fun h => h)).vw hx
  have hVy := (hR2.upd (Upd.drew (fun _ => False) _) (fun h => h)).vw hy
  have hcx := bCompare_any _ _ _ _ _ _ _ hVx hVy
  rw [hx, hy] at hcx
  refine hcx.mono ?_
  rintro e w' ⟨rfl, rfl⟩
  go_wp2_with fail
  refine hKK.out _ _ (.inr trivial) ?_
  iterate 2
    refine plan_last (v := ?_) rfl rfl (fun w' hS => ?_) ?_
    rotate_left
    · skip
      go_simp; try with_reducible rfl
    simp only [Act.put, List.getElem_toArray, List.getElem_cons_zero, List.getElem_cons_succ, List.setIfInBounds_toArray, List.set_cons_zero, List.set_cons_succ]
  refine plan_end ?_
  go_wp2_with fail
  go_ret
  exact ⟨rfl, (hU1.trans (Upd.drew _ _)).mono (fun i hi hs => by omega)⟩

set_option maxRecDepth 100000 in
set_option maxHeartbeats 4000000 in
theorem refLess_any (x y : List UInt8) (w : World) (hx : x.length = 32) (hy : y.length = 32) :
    Calls Try.prog 22 #[.agg (bvs x).toArray, .agg (bvs y).toArray] w fun e w' => e = .returned (.bool (lessL x y)) ∧ Upd (fun _ => False) w w' := by
  obtain ⟨k0, hk0⟩ : ∃ k0, (bvs x).toArray = k0 := ⟨_, rfl⟩
  obtain ⟨k1, hk1⟩ : ∃ k1, (bvs y).toArray = k1 := ⟨_, rfl⟩
  have HK0 := Lib.hid hk0
  have HK1 := Lib.hid hk1
  rw [hk0, hk1]
  clear hk0 hk1
  go_enter Try.func22, Try.ntmps22
  go_upto_region 2 with (fail)
  have hU1 : Upd (fun i => w.heap.size ≤ i) w ((w.alloc (Obj.cells k0 32)).alloc (Obj.cells k1 32)) := (Upd.alloc _ _ _).trans (Upd.alloc _ _ _)
  have hR1 : Row32 ((w.alloc (Obj.cells k0 32)).alloc (Obj.cells k1 32)) w.heap.size x := by
    unfold Row32; rw [HK0.out]; exact (Below.heap_alloc _ _ _ (by simp)).trans (heap_alloc_new _ _)
  have hR2 : Row32 ((w.alloc (Obj.cells k0 32)).alloc (Obj.cells k1 32)) (w.heap.size + 1) y := by
    unfold Row32; rw [HK1.out]
    have := heap_alloc_new (w.alloc (Obj.cells k0 32)) (Obj.cells k1 32)
    simpa using this
  generalize (w.alloc (Obj.cells k0 32)).alloc (Obj.cells k1 32) = w1 at *
  go_wp2_with fail
  go_loopw [5] (fun i wx => ∃ (n : Nat), n ≤ 32 ∧ i = .int .i64 (n : Int) ∧ Hid (Lib.compareBytes x y = Lib.compareBytes (x.drop n) (y.drop n)) ∧ Row32 wx w.heap.size x ∧ Row32 wx (w.heap.size + 1) y ∧ Upd (fun i => w.heap.size ≤ i) w wx) (fun i _ => 32 - (intOf i).toNat)
  case atStart => exact ⟨0, by omega, rfl, rfl, hR1, hR2, hU1⟩
  case round =>
    clear hU1 hR1 hR2
    obtain ⟨n, hn, rfl, hL, hR, hR', hU⟩ := hrel
    by_cases hlt : n < 32
    · have hI : (n : Int) < 32 := by omega
      have q0 := hR.cell n (by omega)
      have q1 := hR'.cell n (by omega)
      have hst := compare_step hx hy hlt
      rw [← hL.out] at hst
      generalize x.getD n 0 = u at *
      generalize y.getD n 0 = v at *
      unfold bv at q0 q1
      obtain ⟨d, hd⟩ : ∃ d, ((u.toNat : Int) != (v.toNat : Int)) = d := ⟨_, rfl⟩
      have hd2 : d = false → u = v := fun e => UInt8.toNat_inj.1 (by rw [e] at hd; simp at hd; omega)
      have hd3 : d = true → u ≠ v := fun e e2 => by rw [e, e2] at hd; simp at hd
      have HD := Lib.hid hd
      have HD2 := Lib.hid hd2
      have HD3 := Lib.hid hd3
      have HST := Lib.hid hst
      clear hst hd hd2 hd3
      go_upto_region 4 with (fail)
      refine wp_region_plan_last [] [0, 1, 2, 3, 4, 5, 6] (fun w' => w'.cell? ⟨w.heap.size, n, none⟩ = some (.int .u8 (u.toNat : Int)) ∧ w'.cell? ⟨w.heap.size + 1, n, none⟩ = some (.int .u8 (v.toNat : Int))) (by kernel_rfl) (by kernel_rfl) ⟨q0, q1⟩ ?_
      iterate 6
        refine plan_last (v := ?_) rfl rfl (fun w' hS => ?_) ?_
        rotate_left
        · obtain ⟨hS1, hS2⟩ := hS
          go_simp; try with_reducible rfl
        simp only [Act.put, List.getElem_toArray, List.getElem_cons_zero, List.getElem_cons_succ, List.setIfInBounds_toArray, List.set_cons_zero, List.set_cons_succ]
      refine plan_last (v := .bool d) rfl rfl (fun w' hS => ?_) ?_
      · go_simp
        rw [HD.out]
      simp only [Act.put, List.getElem_toArray, List.getElem_cons_zero, List.getElem_cons_succ, List.setIfInBounds_toArray, List.set_cons_zero, List.set_cons_succ]
      refine plan_end ?_
      cases d
      · obtain rfl : u = v := HD2.out rfl
        have hST : Hid (Lib.compareBytes x y = Lib.compareBytes (x.drop (n + 1)) (y.drop (n + 1))) := by
          have := HST.out
          rw [if_neg (UInt8.lt_irrefl u), if_neg (UInt8.lt_irrefl u)] at this
          exact this
        go_wp2_with fail
        go_roundw
        case rel => exact ⟨n + 1, by omega, by first | rfl | go_num, hST, hR, hR', hU.trans (Upd.drew _ _)⟩
        case measure => simp [intOf]; omega
      · have hne := HD3.out rfl
        go_upto_region 5 with (fail)
        have q0' := (World.cell?_drew wr ⟨w.heap.size, n, none⟩).trans q0
        have q1' := (World.cell?_drew wr ⟨w.heap.size + 1, n, none⟩).trans q1
        have hval : Hid (decide (u.toNat < v.toNat) = lessL x y) := by
          show _ = _
          unfold lessL
          rw [HST.out]
          by_cases huv : u < v
          · have h1 : u.toNat < v.toNat := UInt8.lt_iff_toNat_lt.1 huv
            rw [if_pos huv, decide_eq_true h1]; rfl
          · have h2 : v < u := UInt8.lt_of_le_of_ne (UInt8.not_lt.1 huv) (Ne.symm hne)
            have h1 : ¬ u.toNat < v.toNat := by have := UInt8.lt_iff_toNat_lt.1 h2; omega
            rw [if_neg huv, if_pos h2, decide_eq_false h1]; rfl
        refine wp_region_plan_last [] [0, 1, 2, 3, 4, 5, 6, 7] (fun w' => w'.cell? ⟨w.heap.size, n, none⟩ = some (.int .u8 (u.toNat : Int)) ∧ w'.cell? ⟨w.heap.size + 1, n, none⟩ = some (.int .u8 (v.toNat : Int))) (by kernel_rfl) (by kernel_rfl) ⟨q0', q1'⟩ ?_
        iterate 6
          refine plan_last (v := ?_) rfl rfl (fun w' hS => ?_) ?_
          rotate_left
          · obtain ⟨hS1, hS2⟩ := hS
            go_simp; try with_reducible rfl
          simp only [Act.put, List.getElem_toArray, List.getElem_cons_zero, List.getElem_cons_succ, List.setIfInBounds_toArray, List.set_cons_zero, List.set_cons_succ]
        refine plan_last (v := .bool (lessL x y)) rfl rfl (fun w' hS => ?_) ?_
        · go_simp
          try rw [hval.out]
        simp only [Act.put, List.getElem_toArray, List.getElem_cons_zero, List.getElem_cons_succ, List.setIfInBounds_toArray, List.set_cons_zero, List.set_cons_succ]
        iterate 1
          refine plan_last (v := ?_) rfl rfl (fun w' hS => ?_) ?_
          rotate_left
          · skip
            go_simp; try with_reducible rfl
          simp only [Act.put, List.getElem_toArray, List.getElem_cons_zero, List.getElem_cons_succ, List.setIfInBounds_toArray, List.set_cons_zero, List.set_cons_succ]
        refine plan_end ?_
        go_wp2_with fail
        go_ret
        exact ⟨rfl, ((hU.trans (Upd.drew _ _)).trans (Upd.drew _ _)).mono (fun i hi hs => by omega)⟩

    · obtain rfl : n = 32 := by omega
      have hL32 : lessL x y = false := by
        unfold lessL
        rw [hL.out, List.drop_of_length_le (by omega), List.drop_of_length_le (by omega)]
        rfl
      have HL32 := Lib.hid hL32
      clear hL hL32
      go_wp2_with fail
      go_ret
      exact ⟨by rw [HL32.out]; rfl, hU.mono (fun i hi hs => by omega)⟩
end Go.Proofs.Ytafkcmgfkecljaa
