
/- What slices.ContainsFunc answers on changes, and on paths. -/
import Derived.Test.YteefceainlfdfaaDoorCmd1
namespace Go.Proofs.YteefceainlfdfaaDoor
set_option linter.unusedSimpArgs false
set_option linter.unusedVariables false
set_option maxRecDepth 100000
open Go.ChangeShapes Go.WideShapes Go.ChangeAt Go.RowKit

set_option maxHeartbeats 1000000 in
theorem ifC_cLong1 (a : Option Addr) (c : Nat) (l : List Chg) (w : World) (hv : Vw w a l.length c 4 (l.flatMap chV)) :
    Calls Tryd.prog 107 #[.slice a l.length c, .func (.func 85) #[] #[]] w fun e w' => ∃ k : Int, e = .returned (.int .i64 k) ∧ decide (0 ≤ k) = l.any longT ∧ Upd (fun _ => False) w w' := by
  have hcap := hv.cap
  have hlc := hv.le
  unfold maxLen at hcap
  have HV := Lib.hid hv
  clear hv
  go_enter Tryd.func107, Tryd.ntmps107
  go_wp2_with fail
  go_loopw [8] (fun i wr => ∃ j : Nat, j ≤ l.length ∧ i = .int .i64 (j : Int) ∧ Hid ((l.take j).any longT = false) ∧ Upd (fun _ => False) w wr) (fun i _ => l.length - (intOf i).toNat)
  case atStart => exact ⟨0, Nat.zero_le _, rfl, (by show _ = _; simp), Upd.refl _ _⟩
  case round =>
    obtain ⟨j, hj, rfl, hA, hU⟩ := hrel
    by_cases hlt : j < l.length
    · have hI : (j : Int) < (l.length : Int) := by omega
      have hv := HV.out.upd hU (fun _ _ h => h)
      obtain ⟨b, o, hb, hcell⟩ := hv.at (by omega) (by decide)
      clear hv
      subst hb
      have q0 : wr.cell? ⟨b, o + j * 4, none⟩ = some (sv l[j].path) := hcell (j * 4 + 0) _ (chV_get l j 0 hlt (by decide))
      have q1 : wr.cell? ⟨b, o + j * 4 + 1, none⟩ = some (.bool l[j].del) := hcell (j * 4 + 1) _ (chV_get l j 1 hlt (by decide))
      have q2 : wr.cell? ⟨b, o + j * 4 + 2, none⟩ = some (.bool l[j].exec) := hcell (j * 4 + 2) _ (chV_get l j 2 hlt (by decide))
      have q3 : wr.cell? ⟨b, o + j * 4 + 3, none⟩ = some (sv l[j].text) := hcell (j * 4 + 3) _ (chV_get l j 3 hlt (by decide))
      have hs := any_take_succ longT l j hlt
      rw [hA.out, Bool.false_or] at hs
      have hall := any_of_take longT l (j + 1)
      rw [hs] at hall
      generalize l[j] = x at *
      have HS := Lib.hid hs
      have HALL := Lib.hid hall
      have hcal := cLong1_any x wr
      clear hcell hs hall hA
      cases hp : longT x with
      | true =>
        rw [hp] at hcal
        have hany := HALL.out hp
        have HANY := Lib.hid hany
        have HP := Lib.hid hp
        clear hany hp
        go_wp2_with fail
        refine hcal.mono ?_
        rintro e w' ⟨rfl, hU2⟩
        have hU3 := hU.trans hU2
        clear hU hU2 hcal
        go_wp2_with fail
        go_ret
        exact ⟨(j : Int), rfl, by rw [HANY.out]; exact decide_eq_true (by omega), hU3⟩
      | false =>
        rw [hp] at hcal
        have HP := Lib.hid hp
        clear hp
        go_wp2_with fail
        refine hcal.mono ?_
        rintro e w' ⟨rfl, hU2⟩
        have hU3 := hU.trans hU2
        clear hU hU2 hcal
        go_wp2_with fail
        go_roundw
        case rel => exact ⟨j + 1, by omega, by first | rfl | go_num, (by show _ = _; rw [HS.out, HP.out]), hU3⟩
        case measure => simp [intOf]; omega
    · obtain rfl : j = l.length := by omega
      have h0 := hA.out
      rw [List.take_length] at h0
      have H0 := Lib.hid h0
      clear h0 hA
      go_wp2_with fail
      go_ret
      exact ⟨-1, rfl, by rw [H0.out]; decide, hU⟩
theorem cfC_cLong1 (a : Option Addr) (c : Nat) (l : List Chg) (w : World) (hv : Vw w a l.length c 4 (l.flatMap chV)) :
    Calls Tryd.prog 84 #[.slice a l.length c, .func (.func 85) #[] #[]] w fun e w' => e = .returned (.bool (l.any longT)) ∧ Upd (fun _ => False) w w' := by
  have h := ifC_cLong1 a c l w hv
  clear hv
  go_enter Tryd.func84, Tryd.ntmps84
  go_wp2_with fail
  refine h.mono ?_
  rintro e w' ⟨k, rfl, hk, hU⟩
  have HK := Lib.hid hk
  clear hk h
  go_wp2_with fail
  go_ret
  exact ⟨by rw [← HK.out]; rfl, hU⟩

set_option maxHeartbeats 1000000 in
theorem ifC_cPaths1 (a : Option Addr) (c : Nat) (l : List Chg) (w : World) (hv : Vw w a l.length c 4 (l.flatMap chV)) :
    Calls Tryd.prog 107 #[.slice a l.length c, .func (.func 86) #[] #[]] w fun e w' => ∃ k : Int, e = .returned (.int .i64 k) ∧ decide (0 ≤ k) = l.any badCh ∧ Upd (fun _ => False) w w' := by
  have hcap := hv.cap
  have hlc := hv.le
  unfold maxLen at hcap
  have HV := Lib.hid hv
  clear hv
  go_enter Tryd.func107, Tryd.ntmps107
  go_wp2_with fail
  go_loopw [8] (fun i wr => ∃ j : Nat, j ≤ l.length ∧ i = .int .i64 (j : Int) ∧ Hid ((l.take j).any badCh = false) ∧ Upd (fun _ => False) w wr) (fun i _ => l.length - (intOf i).toNat)
  case atStart => exact ⟨0, Nat.zero_le _, rfl, (by show _ = _; simp), Upd.refl _ _⟩
  case round =>
    obtain ⟨j, hj, rfl, hA, hU⟩ := hrel
    by_cases hlt : j < l.length
    · have hI : (j : Int) < (l.length : Int) := by omega
      have hv := HV.out.upd hU (fun _ _ h => h)
      obtain ⟨b, o, hb, hcell⟩ := hv.at (by omega) (by decide)
      clear hv
      subst hb
      have q0 : wr.cell? ⟨b, o + j * 4, none⟩ = some (sv l[j].path) := hcell (j * 4 + 0) _ (chV_get l j 0 hlt (by decide))
      have q1 : wr.cell? ⟨b, o + j * 4 + 1, none⟩ = some (.bool l[j].del) := hcell (j * 4 + 1) _ (chV_get l j 1 hlt (by decide))
      have q2 : wr.cell? ⟨b, o + j * 4 + 2, none⟩ = some (.bool l[j].exec) := hcell (j * 4 + 2) _ (chV_get l j 2 hlt (by decide))
      have q3 : wr.cell? ⟨b, o + j * 4 + 3, none⟩ = some (sv l[j].text) := hcell (j * 4 + 3) _ (chV_get l j 3 hlt (by decide))
      have hs := any_take_succ badCh l j hlt
      rw [hA.out, Bool.false_or] at hs
      have hall := any_of_take badCh l (j + 1)
      rw [hs] at hall
      generalize l[j] = x at *
      have HS := Lib.hid hs
      have HALL := Lib.hid hall
      have hcal := cPaths1_any x wr
      clear hcell hs hall hA
      cases hp : badCh x with
      | true =>
        rw [hp] at hcal
        have hany := HALL.out hp
        have HANY := Lib.hid hany
        have HP := Lib.hid hp
        clear hany hp
        go_wp2_with fail
        refine hcal.mono ?_
        rintro e w' ⟨rfl, hU2⟩
        have hU3 := hU.trans hU2
        clear hU hU2 hcal
        go_wp2_with fail
        go_ret
        exact ⟨(j : Int), rfl, by rw [HANY.out]; exact decide_eq_true (by omega), hU3⟩
      | false =>
        rw [hp] at hcal
        have HP := Lib.hid hp
        clear hp
        go_wp2_with fail
        refine hcal.mono ?_
        rintro e w' ⟨rfl, hU2⟩
        have hU3 := hU.trans hU2
        clear hU hU2 hcal
        go_wp2_with fail
        go_roundw
        case rel => exact ⟨j + 1, by omega, by first | rfl | go_num, (by show _ = _; rw [HS.out, HP.out]), hU3⟩
        case measure => simp [intOf]; omega
    · obtain rfl : j = l.length := by omega
      have h0 := hA.out
      rw [List.take_length] at h0
      have H0 := Lib.hid h0
      clear h0 hA
      go_wp2_with fail
      go_ret
      exact ⟨-1, rfl, by rw [H0.out]; decide, hU⟩
theorem cfC_cPaths1 (a : Option Addr) (c : Nat) (l : List Chg) (w : World) (hv : Vw w a l.length c 4 (l.flatMap chV)) :
    Calls Tryd.prog 84 #[.slice a l.length c, .func (.func 86) #[] #[]] w fun e w' => e = .returned (.bool (l.any badCh)) ∧ Upd (fun _ => False) w w' := by
  have h := ifC_cPaths1 a c l w hv
  clear hv
  go_enter Tryd.func84, Tryd.ntmps84
  go_wp2_with fail
  refine h.mono ?_
  rintro e w' ⟨k, rfl, hk, hU⟩
  have HK := Lib.hid hk
  clear hk h
  go_wp2_with fail
  go_ret
  exact ⟨by rw [← HK.out]; rfl, hU⟩

set_option maxHeartbeats 1000000 in
theorem ifS_cPaths2 (a : Option Addr) (c : Nat) (l : List (List UInt8)) (w : World) (hv : Vw w a l.length c 1 (l.map sv)) :
    Calls Tryd.prog 111 #[.slice a l.length c, .func (.func 89) #[] #[]] w fun e w' => ∃ k : Int, e = .returned (.int .i64 k) ∧ decide (0 ≤ k) = l.any badPa ∧ Upd (fun _ => False) w w' := by
  have hcap := hv.cap
  have hlc := hv.le
  unfold maxLen at hcap
  have HV := Lib.hid hv
  clear hv
  go_enter Tryd.func111, Tryd.ntmps111
  go_wp2_with fail
  go_loopw [8] (fun i wr => ∃ j : Nat, j ≤ l.length ∧ i = .int .i64 (j : Int) ∧ Hid ((l.take j).any badPa = false) ∧ Upd (fun _ => False) w wr) (fun i _ => l.length - (intOf i).toNat)
  case atStart => exact ⟨0, Nat.zero_le _, rfl, (by show _ = _; simp), Upd.refl _ _⟩
  case round =>
    obtain ⟨j, hj, rfl, hA, hU⟩ := hrel
    by_cases hlt : j < l.length
    · have hI : (j : Int) < (l.length : Int) := by omega
      have hv := HV.out.upd hU (fun _ _ h => h)
      obtain ⟨b, o, hb, hcell⟩ := hv.at (by omega) (by decide)
      clear hv
      subst hb
      have q := hcell j (sv l[j]) (by simp [hlt])
      have hs := any_take_succ badPa l j hlt
      rw [hA.out, Bool.false_or] at hs
      have hall := any_of_take badPa l (j + 1)
      rw [hs] at hall
      generalize l[j] = x at *
      have HS := Lib.hid hs
      have HALL := Lib.hid hall
      have hcal := cPaths2_any x wr
      clear hcell hs hall hA
      cases hp : badPa x with
      | true =>
        rw [hp] at hcal
        have hany := HALL.out hp
        have HANY := Lib.hid hany
        have HP := Lib.hid hp
        clear hany hp
        go_wp2_with fail
        refine hcal.mono ?_
        rintro e w' ⟨rfl, hU2⟩
        have hU3 := hU.trans hU2
        clear hU hU2 hcal
        go_wp2_with fail
        go_ret
        exact ⟨(j : Int), rfl, by rw [HANY.out]; exact decide_eq_true (by omega), hU3⟩
      | false =>
        rw [hp] at hcal
        have HP := Lib.hid hp
        clear hp
        go_wp2_with fail
        refine hcal.mono ?_
        rintro e w' ⟨rfl, hU2⟩
        have hU3 := hU.trans hU2
        clear hU hU2 hcal
        go_wp2_with fail
        go_roundw
        case rel => exact ⟨j + 1, by omega, by first | rfl | go_num, (by show _ = _; rw [HS.out, HP.out]), hU3⟩
        case measure => simp [intOf]; omega
    · obtain rfl : j = l.length := by omega
      have h0 := hA.out
      rw [List.take_length] at h0
      have H0 := Lib.hid h0
      clear h0 hA
      go_wp2_with fail
      go_ret
      exact ⟨-1, rfl, by rw [H0.out]; decide, hU⟩
theorem cfS_cPaths2 (a : Option Addr) (c : Nat) (l : List (List UInt8)) (w : World) (hv : Vw w a l.length c 1 (l.map sv)) :
    Calls Tryd.prog 88 #[.slice a l.length c, .func (.func 89) #[] #[]] w fun e w' => e = .returned (.bool (l.any badPa)) ∧ Upd (fun _ => False) w w' := by
  have h := ifS_cPaths2 a c l w hv
  clear hv
  go_enter Tryd.func88, Tryd.ntmps88
  go_wp2_with fail
  refine h.mono ?_
  rintro e w' ⟨k, rfl, hk, hU⟩
  have HK := Lib.hid hk
  clear hk h
  go_wp2_with fail
  go_ret
  exact ⟨by rw [← HK.out]; rfl, hU⟩

end Go.Proofs.YteefceainlfdfaaDoor
