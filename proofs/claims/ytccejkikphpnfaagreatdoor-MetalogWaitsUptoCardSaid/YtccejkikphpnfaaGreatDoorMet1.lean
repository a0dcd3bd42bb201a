
/- Roots without markers and bookmarks: that they may be. -/
import Derived.Test.YtccejkikphpnfaaGreatDoorWn
namespace Go.Proofs.YtccejkikphpnfaaGreatDoor
set_option linter.unusedSimpArgs false
set_option linter.unusedVariables false
set_option maxRecDepth 100000
open Go.ChangeShapes Go.WideShapes Go.ChangeAt Go.RowKit

/-- A root's cells. -/
def rootA (p : Int) (a : Option Addr) (n c : Nat) (k : Int) : Array Value := #[.int .i64 p, .slice a n c, .slice none 0 0, .slice none 0 0, .int .i64 k]
/-- It may be. -/
structure RootIn (p : Int) (n : Nat) (k : Int) : Prop where
  p0 : -1 ≤ p
  p1 : p < 2000
  n1 : n ≤ 2000
  k0 : -1 ≤ k
  k1 : k < 2000
theorem within_ok (v lo hi : Int) (w : World) (h : lo ≤ v) (h2 : v ≤ hi) : Calls Tryz.prog 79 #[.int .i64 v, .int .i64 lo, .int .i64 hi] w fun e w' => e = .returned (.bool true) ∧ w = w' := by
  go_enter Tryz.func79, Tryz.ntmps79
  go_wp2
  go_ret
  exact ⟨rfl, rfl⟩
theorem number_ok (v : Int) (w : World) (h : -1 ≤ v) (h2 : v < 2000) : Calls Tryz.prog 82 #[.int .i64 v] w fun e w' => e = .returned (.bool true) ∧ w = w' := by
  go_enter Tryz.func82, Tryz.ntmps82
  go_wp2_with fail
  refine (within_ok v (-1) 1999 w h (by omega)).mono ?_
  rintro e w' ⟨rfl, rfl⟩
  go_wp2_with fail
  go_ret
  exact ⟨rfl, rfl⟩
theorem ifM_nil (w : World) (f : Value) : Calls Tryz.prog 149 #[.slice none 0 0, f] w fun e w' => e = .returned (.int .i64 (-1)) ∧ w = w' := by
  go_enter Tryz.func149, Tryz.ntmps149
  go_wp2_with fail
  go_loopw [8] (fun i wr => i = .int .i64 0 ∧ w = wr) (fun _ _ => 0)
  case atStart => exact ⟨rfl, rfl⟩
  case round =>
    obtain ⟨rfl, rfl⟩ := hrel
    go_wp2_with fail
    go_ret
    exact ⟨rfl, rfl⟩
theorem cfM_nil (w : World) (f : Value) : Calls Tryz.prog 119 #[.slice none 0 0, f] w fun e w' => e = .returned (.bool false) ∧ w = w' := by
  go_enter Tryz.func119, Tryz.ntmps119
  go_wp2_with fail
  refine (ifM_nil w _).mono ?_
  rintro e w' ⟨rfl, rfl⟩
  go_wp2_with fail
  go_ret
  exact ⟨rfl, rfl⟩
theorem markers_nil (w : World) : Calls Tryz.prog 80 #[.slice none 0 0] w fun e w' => e = .returned (.bool true) ∧ w = w' := by
  go_enter Tryz.func80, Tryz.ntmps80
  go_wp2_with fail
  refine (cfM_nil w _).mono ?_
  rintro e w' ⟨rfl, rfl⟩
  go_wp2_with fail
  go_ret
  exact ⟨rfl, rfl⟩
theorem marks_nil (w : World) : Calls Tryz.prog 81 #[.slice none 0 0] w fun e w' => e = .returned (.bool true) ∧ w = w' := by
  go_enter Tryz.func81, Tryz.ntmps81
  go_wp2_with fail
  go_loopw [7] (fun i wr => i = .int .i64 0 ∧ w = wr) (fun _ _ => 0)
  case atStart => exact ⟨rfl, rfl⟩
  case round =>
    obtain ⟨rfl, rfl⟩ := hrel
    go_wp2_with fail
    go_ret
    exact ⟨rfl, rfl⟩
theorem mroot_ok (p : Int) (a : Option Addr) (n c : Nat) (k : Int) (w : World) (h : RootIn p n k) :
    Calls Tryz.prog 43 #[.agg (rootA p a n c k)] w fun e w' => e = .returned (.bool true) ∧ Upd (fun _ => False) w w' := by
  obtain ⟨h1, h2, h3, h4, h5⟩ := h
  have hU := Upd.alloc (fun _ => False) w (.cells (rootA p a n c k) 26)
  unfold rootA at hU ⊢
  have HU := Lib.hid hU
  clear hU
  have hI : decide ((n : Int) ≤ 2000) = true := by rw [decide_eq_true_iff]; omega
  go_enter Tryz.func43, Tryz.ntmps43
  go_wp2_with fail
  refine (within_ok p (-1) 1999 _ h1 (by omega)).mono ?_
  rintro e w' ⟨rfl, rfl⟩
  go_wp2_with fail
  refine (markers_nil _).mono ?_
  rintro e w' ⟨rfl, rfl⟩
  go_wp2_with fail
  refine (marks_nil _).mono ?_
  rintro e w' ⟨rfl, rfl⟩
  go_wp2_with fail
  refine (number_ok k _ h4 h5).mono ?_
  rintro e w' ⟨rfl, rfl⟩
  go_wp2_with fail
  go_ret
  exact ⟨rfl, HU.out⟩
theorem rnumber_ok (v : Int) (w : World) (h : -1 ≤ v) (h2 : v < 2000) : Calls Tryz.prog 85 #[.int .i64 v] w fun e w' => e = .returned (.bool true) ∧ w = w' := by
  go_enter Tryz.func85, Tryz.ntmps85
  go_wp2
  go_ret
  exact ⟨rfl, rfl⟩
theorem rootMay_ok (p : Int) (a : Option Addr) (n c : Nat) (k : Int) (w : World) (h : RootIn p n k) :
    Calls Tryz.prog 49 #[.agg (rootA p a n c k)] w fun e w' => e = .returned (.bool true) ∧ Upd (fun _ => False) w w' := by
  obtain ⟨h1, h2, h3, h4, h5⟩ := h
  have hU := Upd.alloc (fun _ => False) w (.cells (rootA p a n c k) 26)
  unfold rootA at hU ⊢
  have HU := Lib.hid hU
  clear hU
  have hI0 : decide (p < -1) = false := by rw [decide_eq_false_iff_not]; omega
  have hI1 : decide ((2000 : Int) ≤ p) = false := by rw [decide_eq_false_iff_not]; omega
  have hI : decide ((2000 : Int) < (n : Int)) = false := by rw [decide_eq_false_iff_not]; omega
  go_enter Tryz.func49, Tryz.ntmps49
  go_wp2_with fail
  refine (rnumber_ok k _ h4 h5).mono ?_
  rintro e w' ⟨rfl, rfl⟩
  go_wp2_with fail
  go_loopw [3] (fun i wr => i = .int .i64 0 ∧ wr = w.alloc (.cells #[.int .i64 p, .slice a n c, .slice none 0 0, .slice none 0 0, .int .i64 k] 26)) (fun _ _ => 0)
  case atStart => exact ⟨rfl, rfl⟩
  case round =>
    obtain ⟨rfl, rfl⟩ := hrel
    go_wp2_with fail
    go_loopw [6] (fun i wr => i = .int .i64 0 ∧ wr = w.alloc (.cells #[.int .i64 p, .slice a n c, .slice none 0 0, .slice none 0 0, .int .i64 k] 26)) (fun _ _ => 0)
    case atStart => exact ⟨rfl, rfl⟩
    case round =>
      obtain ⟨rfl, rfl⟩ := hrel
      go_wp2_with fail
      go_ret
      exact ⟨rfl, HU.out⟩
end Go.Proofs.YtccejkikphpnfaaGreatDoor
