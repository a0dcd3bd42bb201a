
/- Numbers, lists of numbers, markers: whether they may be. -/
import Derived.Test.YtccejkikphpnfaaGreatDoorMet6
import Derived.Test.YtccejkikphpnfaaGreatDoorPath3
namespace Go.Proofs.YtccejkikphpnfaaGreatDoor
set_option linter.unusedSimpArgs false
set_option linter.unusedVariables false
set_option maxRecDepth 100000
open Go.ChangeShapes Go.WideShapes Go.ChangeAt Go.RowKit

def numB (v : Int) : Bool := decide (-1 ≤ v) && decide (v ≤ 1999)
theorem iv_at (l : List Int) (j : Nat) (h : j < l.length) : (l.map iv)[j]? = some (.int .i64 l[j]) := by simp [iv, h]
theorem within_any (v lo hi : Int) (w : World) : Calls Tryz.prog 79 #[.int .i64 v, .int .i64 lo, .int .i64 hi] w fun e w' => e = .returned (.bool (decide (lo ≤ v) && decide (v ≤ hi))) ∧ w = w' := by
  by_cases h : lo ≤ v
  · rw [decide_eq_true h, Bool.true_and]
    go_enter Tryz.func79, Tryz.ntmps79
    go_wp2
    go_ret
    exact ⟨rfl, rfl⟩
  · rw [decide_eq_false h, Bool.false_and]
    have hI : decide (lo ≤ v) = false := decide_eq_false h
    go_enter Tryz.func79, Tryz.ntmps79
    go_wp2
    go_ret
    exact ⟨rfl, rfl⟩
theorem number_any (v : Int) (w : World) : Calls Tryz.prog 82 #[.int .i64 v] w fun e w' => e = .returned (.bool (numB v)) ∧ w = w' := by
  have h := within_any v (-1) 1999 w
  have e : (decide (-1 ≤ v) && decide (v ≤ 1999)) = numB v := rfl
  rw [e] at h
  generalize numB v = b at *
  go_enter Tryz.func82, Tryz.ntmps82
  go_wp2_with fail
  refine h.mono ?_
  rintro e w' ⟨rfl, rfl⟩
  go_wp2_with fail
  go_ret
  exact ⟨rfl, rfl⟩
def badN (v : Int) : Bool := decide (v < 0) || !numB v
theorem mall1_any (v : Int) (w : World) : Calls Tryz.prog 151 #[.int .i64 v] w fun e w' => e = .returned (.bool (badN v)) ∧ Upd (fun _ => False) w w' := by
  have h := number_any v w
  have e : badN v = (decide (v < 0) || !numB v) := rfl
  by_cases h0 : v < 0
  · rw [decide_eq_true h0, Bool.true_or] at e
    rw [e]
    clear h e
    go_enter Tryz.func151, Tryz.ntmps151
    go_wp2_with fail
    go_ret
    exact ⟨rfl, Upd.refl _ _⟩
  · rw [decide_eq_false h0, Bool.false_or] at e
    rw [e]
    have hI : decide (v < 0) = false := decide_eq_false h0
    generalize numB v = b at *
    clear e h0
    go_enter Tryz.func151, Tryz.ntmps151
    go_wp2_with fail
    refine h.mono ?_
    rintro e w' ⟨rfl, rfl⟩
    clear h
    go_wp2_with fail
    go_ret
    exact ⟨rfl, Upd.refl _ _⟩

set_option maxHeartbeats 2000000 in
theorem cfN_idx (a : Option Addr) (c : Nat) (l : List Int) (w : World) (hv : Vw w a l.length c 1 (l.map iv)) :
    Calls Tryz.prog 162 #[.slice a l.length c, .func (.func 151) #[] #[]] w fun e w' => ∃ k : Int, e = .returned (.int .i64 k) ∧ decide (0 ≤ k) = l.any badN ∧ Upd (fun _ => False) w w' := by
  have hcap := hv.cap
  have hlc := hv.le
  unfold maxLen at hcap
  have HV := Lib.hid hv
  clear hv
  go_enter Tryz.func162, Tryz.ntmps162
  go_wp2_with fail
  go_loopw [8] (fun i wr => ∃ j : Nat, j ≤ l.length ∧ i = .int .i64 (j : Int) ∧ Hid ((l.take j).any badN = false) ∧ Hid (Upd (fun _ => False) w wr)) (fun i _ => l.length - (intOf i).toNat)
  case atStart => exact ⟨0, Nat.zero_le _, rfl, (by show _ = _; simp), Lib.hid (Upd.refl _ _)⟩
  case round =>
    obtain ⟨j, hj, rfl, hA, HU⟩ := hrel
    by_cases hlt : j < l.length
    · have hI : (j : Int) < (l.length : Int) := by omega
      obtain ⟨b, o, hb, hcell⟩ := (HV.out.upd HU.out (fun _ _ h => h)).at (by omega) (by decide)
      subst hb
      have q : wr.cell? ⟨b, o + j, none⟩ = some (.int .i64 l[j]) := hcell j _ (iv_at l j hlt)
      have hs := any_take_succ badN l j hlt
      rw [hA.out, Bool.false_or] at hs
      have hall := any_of_take badN l (j + 1)
      rw [hs] at hall
      clear hcell
      generalize l[j] = x at *
      have HS := Lib.hid hs
      have HALL := Lib.hid hall
      have hlaw := mall1_any x wr
      clear hs hall hA

      cases hp : badN x with
      | true =>
        rw [hp] at hlaw
        have HANY := Lib.hid (HALL.out hp)
        clear hp
        go_wp2_with fail
        refine hlaw.mono ?_
        rintro e w2 ⟨rfl, hU2⟩
        have HU2 := Lib.hid (HU.out.trans hU2)
        clear hlaw hU2
        go_wp2_with fail
        go_ret
        exact ⟨(j : Int), rfl, by rw [HANY.out]; exact decide_eq_true (by omega), HU2.out⟩
      | false =>
        rw [hp] at hlaw
        have HP := Lib.hid hp
        clear hp
        go_wp2_with fail
        refine hlaw.mono ?_
        rintro e w2 ⟨rfl, hU2⟩
        have HU2 := Lib.hid (HU.out.trans hU2)
        clear hlaw hU2
        go_wp2_with fail
        go_roundw
        case rel => exact ⟨j + 1, by omega, by first | rfl | go_num, (by show _ = _; rw [HS.out, HP.out]), HU2⟩
        case measure => simp [intOf]; omega
    · obtain rfl : j = l.length := by omega
      have h0 := hA.out
      rw [List.take_length] at h0
      have H0 := Lib.hid h0
      have hI : ¬ (l.length : Int) < (l.length : Int) := by omega
      clear h0 hA hlt
      go_wp2_with fail
      go_ret
      exact ⟨-1, rfl, by rw [H0.out]; decide, HU.out⟩
theorem cfN_any (a : Option Addr) (c : Nat) (l : List Int) (w : World) (hv : Vw w a l.length c 1 (l.map iv)) :
    Calls Tryz.prog 150 #[.slice a l.length c, .func (.func 151) #[] #[]] w fun e w' => e = .returned (.bool (l.any badN)) ∧ Upd (fun _ => False) w w' := by
  have h := cfN_idx a c l w hv
  clear hv
  go_enter Tryz.func150, Tryz.ntmps150
  go_wp2_with fail
  refine h.mono ?_
  rintro e w' ⟨k, rfl, hk, hU⟩
  have HK := Lib.hid (And.intro hk hU)
  clear hk h hU
  go_wp2_with fail
  go_ret
  exact ⟨by rw [← HK.out.1]; rfl, HK.out.2⟩

def allB (l : List Int) : Bool := decide (l.length ≤ 2000) && !l.any badN
theorem mall_any (a : Option Addr) (c : Nat) (l : List Int) (w : World) (hv : Vw w a l.length c 1 (l.map iv)) :
    Calls Tryz.prog 121 #[.slice a l.length c] w fun e w' => e = .returned (.bool (allB l)) ∧ Upd (fun _ => False) w w' := by
  have h := cfN_any a c l w hv
  have e : allB l = (decide (l.length ≤ 2000) && !l.any badN) := rfl
  clear hv
  by_cases h0 : l.length ≤ 2000
  · rw [decide_eq_true h0, Bool.true_and] at e
    rw [e]
    have hI : decide ((l.length : Int) ≤ 2000) = true := by rw [decide_eq_true_iff]; omega
    generalize l.any badN = b at *
    clear e h0
    go_enter Tryz.func121, Tryz.ntmps121
    go_wp2_with fail
    refine h.mono ?_
    rintro e w' ⟨rfl, hU⟩
    have HU := Lib.hid hU
    clear h hU
    go_wp2_with fail
    go_ret
    exact ⟨rfl, HU.out⟩
  · rw [decide_eq_false h0, Bool.false_and] at e
    rw [e]
    have hI : decide ((l.length : Int) ≤ 2000) = false := by rw [decide_eq_false_iff_not]; omega
    clear e h0 h
    go_enter Tryz.func121, Tryz.ntmps121
    go_wp2_with fail
    go_ret
    exact ⟨rfl, Upd.refl _ _⟩
end Go.Proofs.YtccejkikphpnfaaGreatDoor

