
/- Whether a path may be: path.Right. -/
import Derived.Test.YtccejkikphpnfaaGreatDoorPath3
namespace Go.Proofs.YtccejkikphpnfaaGreatDoor
set_option linter.unusedSimpArgs false
set_option linter.unusedVariables false
set_option maxRecDepth 100000
open Go.ChangeShapes Go.WideShapes Go.ChangeAt Go.RowKit

def pathL (s : List UInt8) : Bool := decide (1 ≤ s.length) && decide (s.length ≤ 100) && !s.any badB && !(partsL s).any badP
/-- '[]byte(s)'. -/
theorem conv_view (l : List UInt8) (w : World) (hl : l.length ≤ 1000000) : ∃ C w', (convert 9 33 (.string (str l))).run Tryz.prog w = .ok (.slice (some ⟨w.heap.size, 0, none⟩) l.length C) w' ∧
    Vw w' (some ⟨w.heap.size, 0, none⟩) l.length C 1 (bvs l) ∧ Upd (fun _ => False) w w' := by
  have h := run_bytes_of_string (P := Tryz.prog) w 9 33 5 (str l) Tryz.underlying9 Tryz.underlying33 Tryz.underlying5
  rw [str_size] at h
  have hge := grownCap_ge w l.length 0 5
  have hm := grownCap_le_maxLen w l.length 0 5 (by unfold maxLen; omega)
  generalize grownCap w l.length 0 5 = C at *
  have hrow : bytesRow (str l) C = (bvs l ++ List.replicate (C - l.length) (Value.int .u8 0)).toArray := by
    unfold bytesRow
    rw [str_size]
    apply Array.ext'
    simp [str, bvs]
    exact fun _ _ => rfl
  rw [hrow] at h
  refine ⟨C, _, h, ⟨by simp [bvs], hge, hm, (fun h => by cases h), fun y hy j u hu => ?_⟩, (Upd.drew _ _).trans (Upd.alloc _ _ _)⟩
  cases hy
  have ha : (Addr.add ⟨w.heap.size, 0, none⟩ j) = ⟨w.heap.size, j, none⟩ := by unfold Addr.add; split <;> simp_all
  have hn : (w.drew.alloc (.cells (bvs l ++ List.replicate (C - l.length) (Value.int .u8 0)).toArray 5 ((bvs l ++ List.replicate (C - l.length) (Value.int .u8 0)).toArray.size, (bvs l ++ List.replicate (C - l.length) (Value.int .u8 0)).toArray.size + 1))).heap[w.heap.size]? = _ := heap_alloc_new w.drew _
  rw [ha, cell_of_row _ _ _ _ _ _ hn]
  have hj : j < (bvs l).length := (List.getElem?_eq_some_iff.1 hu).1
  rw [List.getElem?_toArray, List.getElem?_append_left hj, hu]

set_option maxHeartbeats 2000000 in
theorem pRight_any (s : List UInt8) (w : World) : Calls Tryz.prog 124 #[sv s] w fun e w' => e = .returned (.bool (pathL s)) ∧ Upd (fun _ => False) w w' := by
  have hsz := str_size s
  by_cases h0 : s.length = 0
  · have hb : pathL s = false := by unfold pathL; rw [decide_eq_false (show ¬ 1 ≤ s.length by omega)]; rfl
    have HB := Lib.hid hb
    have hi : ((s.length : Int) == 0) = true := by rw [h0]; rfl
    unfold sv
    clear hb h0
    go_enter Tryz.func124, Tryz.ntmps124
    go_wp2_with fail
    go_ret
    exact ⟨by rw [HB.out]; rfl, Upd.refl _ _⟩
  have hi0 : ((s.length : Int) == 0) = false := by rw [beq_eq_false_iff_ne]; omega
  by_cases h100 : 100 < s.length
  · have hb : pathL s = false := by unfold pathL; rw [decide_eq_false (show ¬ s.length ≤ 100 by omega)]; simp
    have HB := Lib.hid hb
    have hi : (100 : Int) < (s.length : Int) := by omega
    unfold sv
    clear hb h0
    go_enter Tryz.func124, Tryz.ntmps124
    go_wp2_with fail
    go_ret
    exact ⟨by rw [HB.out]; rfl, Upd.refl _ _⟩
  have hi100 : decide ((100 : Int) < (s.length : Int)) = false := by rw [decide_eq_false_iff_not]; omega
  have hpl : pathL s = (!s.any badB && !(partsL s).any badP) := by
    unfold pathL; rw [decide_eq_true (show 1 ≤ s.length by omega), decide_eq_true (show s.length ≤ 100 by omega)]; rfl
  obtain ⟨C, w1, hcv, hv1, hU1⟩ := conv_view s w (by omega)
  have hcf := cfB_pRight1 _ _ s w1 hv1
  have hsp := split_any s w1 (by omega)
  unfold sv at hsp
  have HPL := Lib.hid hpl
  clear hpl h0 h100 hv1
  unfold sv
  cases hany : s.any badB with
  | true =>
    rw [hany] at hcf
    have HA := Lib.hid hany
    clear hany hsp
    go_enter Tryz.func124, Tryz.ntmps124
    go_wp2_with fail
    refine hcf.mono ?_
    rintro e w2 ⟨rfl, rfl⟩
    go_wp2_with fail
    go_ret
    exact ⟨by rw [HPL.out, HA.out]; rfl, hU1⟩
  | false =>
    rw [hany] at hcf
    have HA := Lib.hid hany
    clear hany
    go_enter Tryz.func124, Tryz.ntmps124
    go_wp2_with fail
    refine hcf.mono ?_
    rintro e w2 ⟨rfl, rfl⟩
    clear hcf hcv
    go_wp2_with fail
    refine hsp.mono ?_
    rintro e w3 ⟨g, c, rfl, hv3, hU3, hg⟩
    have hcs := cfS_pRight2 _ _ (partsL s) w3 hv3
    clear hsp hv3
    obtain ⟨bad, hbad⟩ : ∃ b, (partsL s).any badP = b := ⟨_, rfl⟩
    rw [hbad] at hcs
    have HBD := Lib.hid hbad
    clear hbad
    go_wp2_with fail
    refine hcs.mono ?_
    rintro e w4 ⟨rfl, rfl⟩
    go_wp2_with fail
    go_ret
    exact ⟨by rw [HPL.out, HA.out, HBD.out]; rfl, hU1.trans hU3⟩
end Go.Proofs.YtccejkikphpnfaaGreatDoor
