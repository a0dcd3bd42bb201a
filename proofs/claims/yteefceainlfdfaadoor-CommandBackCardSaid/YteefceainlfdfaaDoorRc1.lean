
/- The reference's held, name, long of commands. -/
import Derived.Test.YteefceainlfdfaaDoorCmd5
import Derived.Test.YteefceainlfdfaaDoorPath6
namespace Go.Proofs.YteefceainlfdfaaDoor
set_option linter.unusedSimpArgs false
set_option linter.unusedVariables false
set_option maxRecDepth 100000
open Go.ChangeShapes Go.WideShapes Go.ChangeAt Go.RowKit

theorem r25held_any (v : Int) (w : World) : Calls Tryd.prog 59 #[.int .i64 v] w fun e w' => e = .returned (.int .i64 (heldC v)) ∧ w = w' := by
  have h : max (-1) (min v 2147483646) = heldC v := by unfold heldC; omega
  have H := Lib.hid h
  clear h
  go_enter Tryd.func59, Tryd.ntmps59
  go_wp2_with fail
  go_ret
  exact ⟨by rw [← H.out]; rfl, rfl⟩
set_option maxHeartbeats 2000000 in
theorem r25name_any (s : List UInt8) (w : World) (hs : s.length ≤ 4000000) : Calls Tryd.prog 75 #[sv s] w fun e w' => e = .returned (.bool (nameL s)) ∧ w = w' := by
  have hsz := str_size s
  have hd : nameL s = (decide (1 ≤ s.length) && decide (s.length ≤ 50) && !s.any badB) := rfl
  have HD := Lib.hid hd
  clear hd
  unfold sv
  go_enter Tryd.func75, Tryd.ntmps75
  go_wp2_with fail
  go_loop [3] (fun i => ∃ j : Nat, j ≤ s.length ∧ i = .int .i64 (j : Int) ∧ Hid ((s.take j).any badB = false)) (fun i => s.length - (intOf i).toNat)
  case atStart => exact ⟨0, Nat.zero_le _, rfl, (by show _ = _; simp)⟩
  case round =>
    obtain ⟨j, hj, rfl, hA⟩ := hrel
    by_cases hlt : j < s.length
    · have hI : (j : Int) < (s.length : Int) := by omega
      have hix := fun w => str_at s j hlt w
      have hs1 := any_take_succ badB s j hlt
      rw [hA.out, Bool.false_or] at hs1
      have hall := any_of_take badB s (j + 1)
      rw [hs1] at hall
      generalize s[j] = x at *
      have hx := x.toNat_lt
      have HS := Lib.hid hs1
      have HALL := Lib.hid hall
      clear hs1 hall hA
      by_cases h1 : x.toNat < 33
      · have hi : (x.toNat : Int) < 33 := by omega
        have hb : badB x = true := by simp [badB, h1]
        have HR : Hid (nameL s = false) := Lib.hid (by rw [HD.out, HALL.out hb]; simp)
        clear hb h1
        go_wp2_with fail
        go_ret
        exact ⟨by rw [HR.out]; rfl, rfl⟩
      · have hi : decide ((x.toNat : Int) < 33) = false := by rw [decide_eq_false_iff_not]; omega
        by_cases h2 : 126 < x.toNat
        · have hi2 : (126 : Int) < (x.toNat : Int) := by omega
          have hb : badB x = true := by simp [badB, h2]
          have HR : Hid (nameL s = false) := Lib.hid (by rw [HD.out, HALL.out hb]; simp)
          clear hb h1 h2
          go_wp2_with fail
          go_ret
          exact ⟨by rw [HR.out]; rfl, rfl⟩
        · have hi2 : decide ((126 : Int) < (x.toNat : Int)) = false := by rw [decide_eq_false_iff_not]; omega
          have hb : badB x = false := by simp [badB, h1, h2]; try omega
          have HN : Hid ((s.take (j + 1)).any badB = false) := Lib.hid (by rw [HS.out, hb])
          clear hb h1 h2 HALL
          go_wp2_with fail
          go_round
          case rel => exact ⟨j + 1, by omega, by first | rfl | go_num, HN⟩
          case measure => simp [intOf]; omega
    · obtain rfl : j = s.length := by omega
      have h0 := hA.out
      rw [List.take_length] at h0
      by_cases h1 : 1 ≤ s.length
      · have hi : (1 : Int) ≤ (s.length : Int) := by omega
        by_cases h2 : s.length ≤ 50
        · have hi2 : (s.length : Int) ≤ 50 := by omega
          have HR : Hid (nameL s = true) := Lib.hid (by rw [HD.out, h0, decide_eq_true h1, decide_eq_true h2]; rfl)
          clear h0 hA
          go_wp2_with fail
          go_ret
          exact ⟨by rw [HR.out]; rfl, rfl⟩
        · have hi2 : decide ((s.length : Int) ≤ 50) = false := by rw [decide_eq_false_iff_not]; omega
          have HR : Hid (nameL s = false) := Lib.hid (by rw [HD.out, decide_eq_false h2]; simp)
          clear h0 hA
          go_wp2_with fail
          go_ret
          exact ⟨by rw [HR.out]; rfl, rfl⟩
      · have hi : decide ((1 : Int) ≤ (s.length : Int)) = false := by rw [decide_eq_false_iff_not]; omega
        have HR : Hid (nameL s = false) := Lib.hid (by rw [HD.out, decide_eq_false h1]; simp)
        clear h0 hA
        go_wp2_with fail
        go_ret
        exact ⟨by rw [HR.out]; rfl, rfl⟩
end Go.Proofs.YteefceainlfdfaaDoor
