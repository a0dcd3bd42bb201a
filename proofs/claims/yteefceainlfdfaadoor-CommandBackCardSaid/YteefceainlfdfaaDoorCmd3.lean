
/- command.name, long, paths. -/
import Derived.Test.YteefceainlfdfaaDoorCmd2
namespace Go.Proofs.YteefceainlfdfaaDoor
set_option linter.unusedSimpArgs false
set_option linter.unusedVariables false
set_option maxRecDepth 100000
open Go.ChangeShapes Go.WideShapes Go.ChangeAt Go.RowKit

/-- A command. -/
structure Cmd where
  kind : Int
  msg : List UInt8
  ch : List Chg
  ps : List (List UInt8)
  count : Int
  commit : Int
  dest : Int
  name : List UInt8
/-- As a value: a1, a2 tell where its changes, its paths lie. -/
def cmdV (c : Cmd) (a1 : Option Addr) (c1 : Nat) (a2 : Option Addr) (c2 : Nat) : Value :=
  .agg #[.int .i64 c.kind, sv c.msg, .slice a1 c.ch.length c1, .slice a2 c.ps.length c2, .int .i64 c.count, .int .i64 c.commit, .int .i64 c.dest, sv c.name]
structure CmdIn (w : World) (c : Cmd) (a1 : Option Addr) (c1 : Nat) (a2 : Option Addr) (c2 : Nat) : Prop where
  ch : Vw w a1 c.ch.length c1 4 (c.ch.flatMap chV)
  ps : Vw w a2 c.ps.length c2 1 (c.ps.map sv)
theorem CmdIn.upd {w w' : World} {c : Cmd} {a1 : Option Addr} {c1 : Nat} {a2 : Option Addr} {c2 : Nat} (h : CmdIn w c a1 c1 a2 c2) (hU : Upd (fun _ => False) w w') : CmdIn w' c a1 c1 a2 c2 :=
  ⟨h.ch.upd hU (fun _ _ h => h), h.ps.upd hU (fun _ _ h => h)⟩
def longL (c : Cmd) : Bool := decide (1000 < c.msg.length) || (decide (100 < c.ch.length) || (decide (100 < c.ps.length) || c.ch.any longT))
def pathsL (c : Cmd) : Bool := !c.ch.any badCh && !c.ps.any badPa
def nameL (s : List UInt8) : Bool := decide (1 ≤ s.length) && decide (s.length ≤ 50) && !s.any badB

set_option maxHeartbeats 2000000 in
theorem cName_any (s : List UInt8) (w : World) : Calls Tryd.prog 44 #[sv s] w fun e w' => e = .returned (.bool (nameL s)) ∧ Upd (fun _ => False) w w' := by
  have hsz := str_size s
  by_cases h0 : s.length = 0
  · have hb : nameL s = false := by unfold nameL; rw [decide_eq_false (show ¬ 1 ≤ s.length by omega)]; rfl
    have HB := Lib.hid hb
    have hi : decide ((1 : Int) ≤ (s.length : Int)) = false := by rw [decide_eq_false_iff_not]; omega
    unfold sv
    clear hb h0
    go_enter Tryd.func44, Tryd.ntmps44
    go_wp2_with fail
    go_ret
    exact ⟨by rw [HB.out]; rfl, Upd.refl _ _⟩
  have hi0 : (1 : Int) ≤ (s.length : Int) := by omega
  by_cases h50 : 50 < s.length
  · have hb : nameL s = false := by unfold nameL; rw [decide_eq_false (show ¬ s.length ≤ 50 by omega)]; simp
    have HB := Lib.hid hb
    have hi : decide ((s.length : Int) ≤ (50 : Int)) = false := by rw [decide_eq_false_iff_not]; omega
    unfold sv
    clear hb h0
    go_enter Tryd.func44, Tryd.ntmps44
    go_wp2_with fail
    go_ret
    exact ⟨by rw [HB.out]; rfl, Upd.refl _ _⟩
  have hi50 : (s.length : Int) ≤ (50 : Int) := by omega
  have hpl : nameL s = !s.any badB := by
    unfold nameL; rw [decide_eq_true (show 1 ≤ s.length by omega), decide_eq_true (show s.length ≤ 50 by omega)]; rfl
  obtain ⟨C, w1, hcv, hv1, hU1⟩ := conv_view s w (by omega)
  have hcf := cfB_cName1 _ _ s w1 hv1
  have HPL := Lib.hid hpl
  clear hpl h0 h50 hv1
  unfold sv
  obtain ⟨bad, hbad⟩ : ∃ b, s.any badB = b := ⟨_, rfl⟩
  rw [hbad] at hcf
  have HBD := Lib.hid hbad
  clear hbad
  go_enter Tryd.func44, Tryd.ntmps44
  go_wp2_with fail
  refine hcf.mono ?_
  rintro e w2 ⟨rfl, rfl⟩
  clear hcf hcv
  go_wp2_with fail
  go_ret
  exact ⟨by rw [HPL.out, HBD.out]; rfl, hU1⟩

set_option maxHeartbeats 2000000 in
theorem cLong_any (c : Cmd) (a1 : Option Addr) (c1 : Nat) (a2 : Option Addr) (c2 : Nat) (w : World) (h : CmdIn w c a1 c1 a2 c2) :
    Calls Tryd.prog 42 #[cmdV c a1 c1 a2 c2] w fun e w' => e = .returned (.bool (longL c)) ∧ Upd (fun _ => False) w w' := by
  have hU1 := Upd.alloc (fun _ => False) w (.cells (cmdV c a1 c1 a2 c2).cells 25)
  have hv := (h.upd hU1).ch
  clear h
  have hcf := cfC_cLong1 _ _ c.ch _ hv
  clear hv
  have hsz := str_size c.msg
  unfold cmdV at hU1 hcf ⊢
  unfold sv at hU1 hcf ⊢
  dsimp only [Value.cells] at hU1 hcf
  have HU1 := Lib.hid hU1
  clear hU1
  by_cases h1 : 1000 < c.msg.length
  · have hb : longL c = true := by unfold longL; rw [decide_eq_true h1]; rfl
    have HB := Lib.hid hb
    have hi : (1000 : Int) < (c.msg.length : Int) := by omega
    clear hb h1 hcf
    go_enter Tryd.func42, Tryd.ntmps42
    go_wp2_with fail
    go_ret
    exact ⟨by rw [HB.out]; rfl, HU1.out⟩
  have hi1 : decide ((1000 : Int) < (c.msg.length : Int)) = false := by rw [decide_eq_false_iff_not]; omega
  by_cases h2 : 100 < c.ch.length
  · have hb : longL c = true := by unfold longL; rw [decide_eq_true h2]; simp
    have HB := Lib.hid hb
    have hi : (100 : Int) < (c.ch.length : Int) := by omega
    clear hb h1 h2 hcf
    go_enter Tryd.func42, Tryd.ntmps42
    go_wp2_with fail
    go_ret
    exact ⟨by rw [HB.out]; rfl, HU1.out⟩
  have hi2 : decide ((100 : Int) < (c.ch.length : Int)) = false := by rw [decide_eq_false_iff_not]; omega
  by_cases h3 : 100 < c.ps.length
  · have hb : longL c = true := by unfold longL; rw [decide_eq_true h3]; simp
    have HB := Lib.hid hb
    have hi : (100 : Int) < (c.ps.length : Int) := by omega
    clear hb h1 h2 h3 hcf
    go_enter Tryd.func42, Tryd.ntmps42
    go_wp2_with fail
    go_ret
    exact ⟨by rw [HB.out]; rfl, HU1.out⟩
  have hi3 : decide ((100 : Int) < (c.ps.length : Int)) = false := by rw [decide_eq_false_iff_not]; omega
  have hb : longL c = c.ch.any longT := by unfold longL; rw [decide_eq_false h1, decide_eq_false h2, decide_eq_false h3]; rfl
  have HB := Lib.hid hb
  clear hb h1 h2 h3
  obtain ⟨bad, hbad⟩ : ∃ b, c.ch.any longT = b := ⟨_, rfl⟩
  rw [hbad] at hcf
  have HBD := Lib.hid hbad
  clear hbad
  go_enter Tryd.func42, Tryd.ntmps42
  go_wp2_with fail
  refine hcf.mono ?_
  rintro e w2 ⟨rfl, hU2⟩
  clear hcf
  go_wp2_with fail
  go_ret
  exact ⟨by rw [HB.out, HBD.out]; rfl, HU1.out.trans hU2⟩

set_option maxHeartbeats 2000000 in
theorem cPaths_any (c : Cmd) (a1 : Option Addr) (c1 : Nat) (a2 : Option Addr) (c2 : Nat) (w : World) (h : CmdIn w c a1 c1 a2 c2) :
    Calls Tryd.prog 43 #[cmdV c a1 c1 a2 c2] w fun e w' => e = .returned (.bool (pathsL c)) ∧ Upd (fun _ => False) w w' := by
  have hU1 := Upd.alloc (fun _ => False) w (.cells (cmdV c a1 c1 a2 c2).cells 25)
  have hrow := heap_alloc_new w (.cells (cmdV c a1 c1 a2 c2).cells 25)
  have h1 := h.upd hU1
  clear h
  have hcf := cfC_cPaths1 _ _ c.ch _ h1.ch
  unfold cmdV at hU1 hcf h1 hrow ⊢
  unfold sv at hU1 hcf h1 hrow ⊢
  dsimp only [Value.cells] at hU1 hcf h1 hrow
  have HU1 := Lib.hid (And.intro hU1 (And.intro h1 hrow))
  clear hU1 h1 hrow
  have hb : pathsL c = (!c.ch.any badCh && !c.ps.any badPa) := rfl
  have HB := Lib.hid hb
  clear hb
  cases hbad : c.ch.any badCh with
  | true =>
    rw [hbad] at hcf
    have HBD := Lib.hid hbad
    clear hbad
    go_enter Tryd.func43, Tryd.ntmps43
    go_wp2_with fail
    refine hcf.mono ?_
    rintro e w2 ⟨rfl, hU2⟩
    clear hcf
    go_wp2_with fail
    go_ret
    exact ⟨by rw [HB.out, HBD.out]; rfl, HU1.out.1.trans hU2⟩
  | false =>
    rw [hbad] at hcf
    have HBD := Lib.hid hbad
    clear hbad
    go_enter Tryd.func43, Tryd.ntmps43
    go_wp2_with fail
    refine hcf.mono ?_
    rintro e w2 ⟨rfl, hU2⟩
    clear hcf
    obtain ⟨hU1, h1, hrow⟩ := HU1.out
    have h2 := h1.upd hU2
    have hr2 := (hU2.block _ (lt_of_heap hrow) (fun h => h)).trans hrow
    have y3 : w2.cell? ⟨w.heap.size, 3, none⟩ = some (.slice a2 c.ps.length c2) := by rw [cell_of_row _ _ _ _ _ _ hr2]; rfl
    have hcs := cfS_cPaths2 _ _ c.ps w2 h2.ps
    have HU2 := Lib.hid (hU1.trans hU2)
    clear hU1 h1 hrow h2 hU2 hr2
    obtain ⟨bad, hbad⟩ : ∃ b, c.ps.any badPa = b := ⟨_, rfl⟩
    rw [hbad] at hcs
    have HBP := Lib.hid hbad
    clear hbad
    go_wp2_with fail
    refine hcs.mono ?_
    rintro e w3 ⟨rfl, hU3⟩
    clear hcs
    go_wp2_with fail
    go_ret
    exact ⟨by rw [HB.out, HBD.out, HBP.out]; rfl, HU2.out.trans hU3⟩
end Go.Proofs.YteefceainlfdfaaDoor
