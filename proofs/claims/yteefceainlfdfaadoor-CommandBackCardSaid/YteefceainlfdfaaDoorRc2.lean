
/- The reference's long of commands. -/
import Derived.Test.YteefceainlfdfaaDoorRc1
namespace Go.Proofs.YteefceainlfdfaaDoor
set_option linter.unusedSimpArgs false
set_option linter.unusedVariables false
set_option maxRecDepth 100000
open Go.ChangeShapes Go.WideShapes Go.ChangeAt Go.RowKit

set_option maxHeartbeats 4000000 in
theorem r25long_any (c : Cmd) (a1 : Option Addr) (c1 : Nat) (a2 : Option Addr) (c2 : Nat) (w : World) (h : CmdIn w c a1 c1 a2 c2) :
    Calls Tryd.prog 74 #[cmdV c a1 c1 a2 c2] w fun e w' => e = .returned (.bool (longL c)) ∧ Upd (fun _ => False) w w' := by
  have hU1 := Upd.alloc (fun _ => False) w (.cells (cmdV c a1 c1 a2 c2).cells 25)
  have hrow := heap_alloc_new w (.cells (cmdV c a1 c1 a2 c2).cells 25)
  have h1 := h.upd hU1
  have hcap := h.ch.cap
  have hlc := h.ch.le
  have hcap2 := h.ps.cap
  have hlc2 := h.ps.le
  unfold maxLen at hcap hcap2
  have hsm := str_size c.msg
  have hd : longL c = (decide (1000 < c.msg.length) || (decide (100 < c.ch.length) || (decide (100 < c.ps.length) || c.ch.any longT))) := rfl
  have HD := Lib.hid hd
  unfold cmdV at hU1 hrow h1 ⊢
  unfold sv at hU1 hrow h1 ⊢
  dsimp only [Value.cells] at hU1 hrow h1
  have HP := Lib.hid (And.intro hU1 (And.intro hrow h1))
  clear hU1 hrow h1 h hd
  go_enter Tryd.func74, Tryd.ntmps74
  go_upto_region 1 with (fail)
  obtain ⟨hU1, hrow, h1⟩ := HP.out
  generalize w.alloc (.cells #[.int .i64 c.kind, .string (str c.msg), .slice a1 c.ch.length c1, .slice a2 c.ps.length c2, .int .i64 c.count, .int .i64 c.commit, .int .i64 c.dest, .string (str c.name)] 25) = y0 at *
  obtain ⟨B, hB⟩ : ∃ B, B = w.heap.size := ⟨_, rfl⟩
  rw [← hB] at hrow ⊢
  obtain ⟨z0, z1, z2, z3, z4, z5, z6, z7⟩ := cmd_cells hrow (Upd.refl _ y0)
  have HU := Lib.hid hU1
  have HI := Lib.hid h1
  clear hU1 hrow h1 HP hB z0 z4 z5 z6 z7
  go_wp2_with fail
  go_loop [3] (fun i => ∃ j : Nat, j ≤ c.ch.length ∧ i = .int .i64 (j : Int) ∧ Hid ((c.ch.take j).any longT = false)) (fun i => c.ch.length - (intOf i).toNat)
  case atStart => exact ⟨0, Nat.zero_le _, rfl, (by show _ = _; simp)⟩
  case round =>
    obtain ⟨j, hj, rfl, hA⟩ := hrel
    by_cases hlt : j < c.ch.length
    · have hI : (j : Int) < (c.ch.length : Int) := by omega
      obtain ⟨b, o, hb, hcell⟩ := HI.out.ch.at (by omega) (by decide)
      rw [hb] at z2 ⊢
      have q3 : y0.cell? ⟨b, o + j * 4 + 3, none⟩ = some (sv c.ch[j].text) := hcell (j * 4 + 3) _ (chV_get c.ch j 3 hlt (by decide))
      have hs1 := any_take_succ longT c.ch j hlt
      rw [hA.out, Bool.false_or] at hs1
      have hall := any_of_take longT c.ch (j + 1)
      rw [hs1] at hall
      have hts := str_size c.ch[j].text
      have hlt' : longT c.ch[j] = decide (20000 < c.ch[j].text.length) := rfl
      have HS := Lib.hid hs1
      have HALL := Lib.hid hall
      have HLT := Lib.hid hlt'
      unfold sv at q3
      clear hs1 hall hA hcell hlt'
      generalize longT c.ch[j] = lt at *
      generalize c.ch[j].text = tx0 at *
      by_cases h2 : 20000 < tx0.length
      · have hi : (20000 : Int) < (tx0.length : Int) := by omega
        have HR : Hid (longL c = true) := Lib.hid (by rw [HD.out, HALL.out (by rw [HLT.out, decide_eq_true h2])]; simp)
        clear h2
        go_wp2_with fail
        go_ret
        exact ⟨by rw [HR.out]; rfl, HU.out⟩
      · have hi : decide ((20000 : Int) < (tx0.length : Int)) = false := by rw [decide_eq_false_iff_not]; omega
        have HN : Hid ((c.ch.take (j + 1)).any longT = false) := Lib.hid (by rw [HS.out, HLT.out, decide_eq_false h2])
        clear h2 HALL
        go_wp2_with fail
        go_round
        case rel => exact ⟨j + 1, by omega, by first | rfl | go_num, HN⟩
        case measure => simp [intOf]; omega
    · obtain rfl : j = c.ch.length := by omega
      have h0 := hA.out
      rw [List.take_length] at h0
      have hL : longL c = (decide (1000 < c.msg.length) || (decide (100 < c.ch.length) || decide (100 < c.ps.length))) := by rw [HD.out, h0, Bool.or_false]
      have HL := Lib.hid hL
      clear h0 hA hL
      by_cases m1 : 1000 < c.msg.length
      · have hi : (1000 : Int) < (c.msg.length : Int) := by omega
        have HR : Hid (longL c = true) := Lib.hid (by rw [HL.out, decide_eq_true m1]; rfl)
        go_wp2_with fail
        go_ret
        exact ⟨by rw [HR.out]; rfl, HU.out⟩
      have hi1 : decide ((1000 : Int) < (c.msg.length : Int)) = false := by rw [decide_eq_false_iff_not]; omega
      by_cases m2 : 100 < c.ch.length
      · have hi : (100 : Int) < (c.ch.length : Int) := by omega
        have HR : Hid (longL c = true) := Lib.hid (by rw [HL.out, decide_eq_true m2]; simp)
        go_wp2_with fail
        go_ret
        exact ⟨by rw [HR.out]; rfl, HU.out⟩
      have hi2 : decide ((100 : Int) < (c.ch.length : Int)) = false := by rw [decide_eq_false_iff_not]; omega
      by_cases m3 : 100 < c.ps.length
      · have hi : (100 : Int) < (c.ps.length : Int) := by omega
        have HR : Hid (longL c = true) := Lib.hid (by rw [HL.out, decide_eq_true m3]; simp)
        go_wp2_with fail
        go_ret
        exact ⟨by rw [HR.out]; rfl, HU.out⟩
      have hi3 : decide ((100 : Int) < (c.ps.length : Int)) = false := by rw [decide_eq_false_iff_not]; omega
      have HR : Hid (longL c = false) := Lib.hid (by rw [HL.out, decide_eq_false m1, decide_eq_false m2, decide_eq_false m3]; rfl)
      go_wp2_with fail
      go_ret
      exact ⟨by rw [HR.out]; rfl, HU.out⟩
end Go.Proofs.YteefceainlfdfaaDoor
