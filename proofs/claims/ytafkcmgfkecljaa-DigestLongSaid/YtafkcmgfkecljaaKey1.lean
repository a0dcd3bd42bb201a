/- A name, written: the reference's Hex. -/
import Derived.Test.YtafkcmgfkecljaaHex
namespace Go.Proofs.Ytafkcmgfkecljaa
set_option linter.unusedSimpArgs false
set_option linter.unusedVariables false
open Go.ChangeShapes Go.WideShapes Go.ChangeAt Go.RowKit

theorem dig_sub (n : Nat) (hn : n < 16) (w : World) : (Instr.slice 9 (.string ⟨#[48, 49, 50, 51, 52, 53, 54, 55, 56, 57, 97, 98, 99, 100, 101, 102]⟩) (some (.int .u8 (n : Int))) (some (.int .u8 ((n : Int) + 1))) none).run Try.prog w = .ok (.string (str [dig n])) w := by
  rw [run_slice_string w _ _ _ _ _ _ Try.underlying9 (by omega) (by omega) (by show _ ≤ (16 : Int); omega)]
  have key : ∀ m : Fin 16, ((⟨#[48, 49, 50, 51, 52, 53, 54, 55, 56, 57, 97, 98, 99, 100, 101, 102]⟩ : ByteArray).extract m.val (m.val + 1)) = str [dig m.val] := by decide
  have := key ⟨n, hn⟩
  simp only at this
  have h1 : ((n : Int)).toNat = n := by omega
  have h2 : ((n : Int) + 1).toNat = n + 1 := by omega
  rw [h1, h2, this]
theorem str_app (a b : List UInt8) : str a ++ str b = str (a ++ b) := by
  apply ByteArray.ext
  simp [str]

set_option maxRecDepth 100000 in
set_option maxHeartbeats 4000000 in
theorem refHex_any (k : List UInt8) (w : World) (hk : k.length = 32) :
    Calls Try.prog 20 #[.agg (bvs k).toArray] w fun e w' => e = .returned (.string (str (hexL k))) ∧ Upd (fun _ => False) w w' := by
  obtain ⟨k0, hk0⟩ : ∃ k0, (bvs k).toArray = k0 := ⟨_, rfl⟩
  have HK0 := Lib.hid hk0
  rw [hk0]
  clear hk0
  go_enter Try.func20, Try.ntmps20
  go_upto_region 2 with (fail)
  have hU1 : Upd (fun i => w.heap.size ≤ i) w (w.alloc (Obj.cells k0 32)) := Upd.alloc _ _ _
  have hR1 : Row32 (w.alloc (Obj.cells k0 32)) w.heap.size k := by unfold Row32; rw [HK0.out]; exact heap_alloc_new _ _
  generalize w.alloc (Obj.cells k0 32) = w1 at *
  go_wp2_with fail
  go_loopw [3, 4] (fun v i wx => ∃ (n : Nat) (L : List UInt8), n ≤ 32 ∧ i = .int .i64 (n : Int) ∧ v = .string (str L) ∧ Hid (L = hexL (k.take n)) ∧ Row32 wx w.heap.size k ∧ Upd (fun i => w.heap.size ≤ i) w wx) (fun _ i _ => 32 - (intOf i).toNat)
  case atStart => exact ⟨0, [], by omega, rfl, rfl, (by show _ = _; simp [hexL]), hR1, hU1⟩
  case round =>
    clear hU1 hR1
    obtain ⟨n, L, hn, rfl, rfl, hL, hR, hU⟩ := hrel
    by_cases hlt : n < 32
    · have hI : (n : Int) < 32 := by omega
      have q0 := hR.cell n (by omega)
      have hlL : L.length ≤ 62 := by rw [hL.out, hexL_length]; simp; omega
      have hL2 : L ++ [dig ((k.getD n 0).toNat / 16), dig ((k.getD n 0).toNat % 16)] = hexL (k.take (n + 1)) := by
        rw [hL.out, List.take_add_one, show k[n]?.toList = [k.getD n 0] from by simp [List.getElem?_eq_getElem (show n < k.length by omega)], hexL_snoc]
      generalize k.getD n 0 = x at *
      unfold bv at q0
      have hx := x.toNat_lt
      have hd1 := dig_sub (x.toNat / 16) (by omega)
      have h15 := and15 ⟨x.toNat, hx⟩
      dsimp only at h15
      have hd2 := dig_sub (x.toNat % 16) (by omega)
      obtain ⟨d1, hd1'⟩ : ∃ d1, dig (x.toNat / 16) = d1 := ⟨_, rfl⟩
      obtain ⟨d2, hd2'⟩ : ∃ d2, dig (x.toNat % 16) = d2 := ⟨_, rfl⟩
      rw [hd1'] at hd1 hL2
      rw [hd2'] at hd2 hL2
      obtain ⟨x1, hx1⟩ : ∃ x1, x1 = x.toNat / 16 := ⟨_, rfl⟩
      obtain ⟨x2, hx2⟩ : ∃ x2, x2 = x.toNat % 16 := ⟨_, rfl⟩
      have hx1' : x1 < 16 := by omega
      have hx2' : x2 < 16 := by omega
      rw [← hx1] at hd1
      rw [← hx2] at hd2 h15
      have HX1 : Hid ((x.toNat : Int) / 16 = (x1 : Int)) := by show _ = _; omega
      have HL2 := Lib.hid hL2
      have HD1 := Lib.hid hd1
      have HD2 := Lib.hid hd2
      have H15 := Lib.hid h15
      clear hd1' hd2' hL2 hlt h15 hd1 hd2 hx1 hx2
      go_upto_region 5 with (fail)
      refine wp_region_plan_last [] [0, 1, 2, 3, 4, 5, 6, 7, 8, 9, 10, 11, 12, 13, 14, 15, 16, 17, 18, 19, 20, 21, 22, 23] (fun w' => w'.cell? ⟨w.heap.size, n, none⟩ = some (.int .u8 (x.toNat : Int))) (by kernel_rfl) (by kernel_rfl) q0 ?_
      iterate 4
        refine plan_last (v := ?_) rfl rfl (fun w' hS => ?_) ?_
        rotate_left
        · skip
          go_simp; try with_reducible rfl
        simp only [Act.put, List.getElem_toArray, List.getElem_cons_zero, List.getElem_cons_succ, List.setIfInBounds_toArray, List.set_cons_zero, List.set_cons_succ]
      refine plan_last (v := .int .u8 (x1 : Int)) rfl rfl (fun w' hS => ?_) ?_
      · go_simp
        rw [HX1.out]
      simp only [Act.put, List.getElem_toArray, List.getElem_cons_zero, List.getElem_cons_succ, List.setIfInBounds_toArray, List.set_cons_zero, List.set_cons_succ]
      iterate 3
        refine plan_last (v := ?_) rfl rfl (fun w' hS => ?_) ?_
        rotate_left
        · skip
          go_simp; try with_reducible rfl
        simp only [Act.put, List.getElem_toArray, List.getElem_cons_zero, List.getElem_cons_succ, List.setIfInBounds_toArray, List.set_cons_zero, List.set_cons_succ]
      refine plan_last (v := .int .u8 (x1 : Int)) rfl rfl (fun w' hS => ?_) ?_
      · go_simp
        rw [HX1.out]
      simp only [Act.put, List.getElem_toArray, List.getElem_cons_zero, List.getElem_cons_succ, List.setIfInBounds_toArray, List.set_cons_zero, List.set_cons_succ]
      refine plan_last (v := .int .u8 ((x1 : Int) + 1)) rfl rfl (fun w' hS => ?_) ?_
      · go_simp
        rw [IntKind.wrap_u8]; omega
      simp only [Act.put, List.getElem_toArray, List.getElem_cons_zero, List.getElem_cons_succ, List.setIfInBounds_toArray, List.set_cons_zero, List.set_cons_succ]
      refine plan_last (v := .string (str [d1])) rfl rfl (fun w' hS => ?_) ?_
      · have := HD1.out w'
        go_simp
      simp only [Act.put, List.getElem_toArray, List.getElem_cons_zero, List.getElem_cons_succ, List.setIfInBounds_toArray, List.set_cons_zero, List.set_cons_succ]
      refine plan_last (v := .string (str (L ++ [d1]))) rfl rfl (fun w' hS => ?_) ?_
      · go_simp
        rw [str_app, if_neg (by rw [str_size, str_size]; simp; omega)]
      simp only [Act.put, List.getElem_toArray, List.getElem_cons_zero, List.getElem_cons_succ, List.setIfInBounds_toArray, List.set_cons_zero, List.set_cons_succ]
      iterate 3
        refine plan_last (v := ?_) rfl rfl (fun w' hS => ?_) ?_
        rotate_left
        · skip
          go_simp; try with_reducible rfl
        simp only [Act.put, List.getElem_toArray, List.getElem_cons_zero, List.getElem_cons_succ, List.setIfInBounds_toArray, List.set_cons_zero, List.set_cons_succ]
      refine plan_last (v := .int .u8 (x2 : Int)) rfl rfl (fun w' hS => ?_) ?_
      · go_simp
        rw [H15.out]
      simp only [Act.put, List.getElem_toArray, List.getElem_cons_zero, List.getElem_cons_succ, List.setIfInBounds_toArray, List.set_cons_zero, List.set_cons_succ]
      iterate 3
        refine plan_last (v := ?_) rfl rfl (fun w' hS => ?_) ?_
        rotate_left
        · skip
          go_simp; try with_reducible rfl
        simp only [Act.put, List.getElem_toArray, List.getElem_cons_zero, List.getElem_cons_succ, List.setIfInBounds_toArray, List.set_cons_zero, List.set_cons_succ]
      refine plan_last (v := .int .u8 (x2 : Int)) rfl rfl (fun w' hS => ?_) ?_
      · go_simp
        rw [H15.out]
      simp only [Act.put, List.getElem_toArray, List.getElem_cons_zero, List.getElem_cons_succ, List.setIfInBounds_toArray, List.set_cons_zero, List.set_cons_succ]
      refine plan_last (v := .int .u8 ((x2 : Int) + 1)) rfl rfl (fun w' hS => ?_) ?_
      · go_simp
        rw [IntKind.wrap_u8]; omega
      simp only [Act.put, List.getElem_toArray, List.getElem_cons_zero, List.getElem_cons_succ, List.setIfInBounds_toArray, List.set_cons_zero, List.set_cons_succ]
      refine plan_last (v := .string (str [d2])) rfl rfl (fun w' hS => ?_) ?_
      · have := HD2.out w'
        go_simp
      simp only [Act.put, List.getElem_toArray, List.getElem_cons_zero, List.getElem_cons_succ, List.setIfInBounds_toArray, List.set_cons_zero, List.set_cons_succ]
      refine plan_last (v := .string (str (L ++ [d1, d2]))) rfl rfl (fun w' hS => ?_) ?_
      · go_simp
        rw [str_app, if_neg (by rw [str_size, str_size]; simp; omega), List.append_assoc]; rfl
      simp only [Act.put, List.getElem_toArray, List.getElem_cons_zero, List.getElem_cons_succ, List.setIfInBounds_toArray, List.set_cons_zero, List.set_cons_succ]
      iterate 1
        refine plan_last (v := ?_) rfl rfl (fun w' hS => ?_) ?_
        rotate_left
        · skip
          go_simp; try with_reducible rfl
        simp only [Act.put, List.getElem_toArray, List.getElem_cons_zero, List.getElem_cons_succ, List.setIfInBounds_toArray, List.set_cons_zero, List.set_cons_succ]
      refine plan_end ?_
      go_wp2_with fail
      go_roundw
      case rel => exact ⟨n + 1, L ++ [d1, d2], by omega, by first | rfl | go_num, rfl, HL2, hR, hU.trans (Upd.drew _ _)⟩
      case measure => simp [intOf]; omega
    · obtain rfl : n = 32 := by omega
      have hL32 : L = hexL k := by rw [hL.out, List.take_of_length_le (by omega)]
      have HL32 := Lib.hid hL32
      clear hL32 hL
      go_wp2_with fail
      go_ret
      exact ⟨by rw [HL32.out]; rfl, hU.mono (fun i hi hs => by omega)⟩
end Go.Proofs.Ytafkcmgfkecljaa
