
/- Moves' records are added; a redo of nothing is refused. -/
import Derived.Test.YtccejkikphpnfaaGreatDoorMet15
namespace Go.Proofs.YtccejkikphpnfaaGreatDoor
set_option linter.unusedSimpArgs false
set_option linter.unusedVariables false
set_option maxRecDepth 100000
open Go.ChangeShapes Go.WideShapes Go.ChangeAt Go.RowKit

theorem move_none (g : Lg) (A : LA) (lb : Nat) (v : Int) (w : World) (h : LogW w lb g A) (hds : g.ds = []) :
    Calls Tryz.prog 101 #[.pointer (some ⟨lb, 0, none⟩), .int .i64 v, .bool true] w fun e w' => e = .returned (.int .i64 5) ∧ Upd (fun _ => False) w w' := by
  obtain ⟨ra, rc, fa, fc, ka, kc, da, dc⟩ := A
  obtain ⟨rr, fs, cs, top, ds, n⟩ := g
  dsimp only at *
  subst hds
  have q4 := h.c4
  have q5 := h.c5
  dsimp only [List.length_nil] at q4 q5
  clear h
  go_enter Tryz.func101, Tryz.ntmps101
  go_wp2_with fail
  go_ret
  exact ⟨rfl, Upd.refl _ _⟩
theorem read2_any (lb L2 c1 c2 : Nat) (v : Int) (redo : Bool) (r : Int) (R : World → Prop) (w : World) (hm : Calls Tryz.prog 101 #[.pointer (some ⟨lb, 0, none⟩), .int .i64 v, .bool redo] w fun e w' => e = .returned (.int .i64 r) ∧ R w')
    (hL : w.heap[L2]? = some (.cells #[.pointer (some ⟨lb, 0, none⟩)] 42)) (h1 : w.heap[c1]? = some (.cells #[.int .i64 v] 3)) (h2 : w.heap[c2]? = some (.cells #[.bool redo] 4)) :
    Calls Tryz.prog 100 #[.pointer (some ⟨L2, 0, none⟩), .pointer (some ⟨c1, 0, none⟩), .pointer (some ⟨c2, 0, none⟩)] w fun e w' => e = .returned (.int .i64 r) ∧ R w' := by
  have q : w.cell? ⟨L2, 0, none⟩ = some (.pointer (some ⟨lb, 0, none⟩)) := by rw [cell_of_row _ _ _ _ _ _ hL]; rfl
  have q1 : w.cell? ⟨c1, 0, none⟩ = some (.int .i64 v) := by rw [cell_of_row _ _ _ _ _ _ h1]; rfl
  have q2 : w.cell? ⟨c2, 0, none⟩ = some (.bool redo) := by rw [cell_of_row _ _ _ _ _ _ h2]; rfl
  clear hL h1 h2
  go_enter Tryz.func100, Tryz.ntmps100
  go_wp2_with fail
  refine hm.mono ?_
  rintro e w1 ⟨rfl, hR⟩
  clear hm q q1 q2
  go_wp2_with fail
  go_ret
  exact ⟨rfl, hR⟩
set_option maxHeartbeats 4000000 in
theorem add_move (g g' : Lg) (A : LA) (lb : Nat) (v : Int) (redo : Bool) (h0 : -1 ≤ v) (h1 : v < 2000) (a : Option Addr) (c : Nat) (w : World) (h : LogW w lb g A) (hn0 : 0 ≤ g'.n) (hn1 : g'.n ≤ 100000)
    (hm : ∀ w1 A1, LogW w1 lb g A1 → Calls Tryz.prog 101 #[.pointer (some ⟨lb, 0, none⟩), .int .i64 v, .bool redo] w1 fun e w' => e = .returned (.int .i64 0) ∧ ∃ A', LogW w' lb g' A' ∧ Upd (fun q => q = lb) w1 w')
    (hv : Vw w a (moveL v redo).length c 1 (bvs (moveL v redo))) :
    Calls Tryz.prog 21 #[.pointer (some ⟨lb, 0, none⟩), .slice a (moveL v redo).length c] w fun e w' => e = .returned (.int .i64 0) ∧ ∃ A', LogW w' lb ⟨g'.rr, g'.fs, g'.cs, g'.top, g'.ds, g'.n + 1⟩ A' ∧ Upd (fun q => q = lb) w w' := by
  have hread := read_move lb v redo h0 (by omega) a c w hv
  have hw : IntKind.i64.wrap (g'.n + 1) = g'.n + 1 := IntWalk.i64_in _ (by omega)
  have HL := Lib.hid h
  have HM := Lib.hid hm
  clear h hm hv
  go_enter Tryz.func21, Tryz.ntmps21
  go_wp2_with fail
  refine hread.mono ?_
  rintro e w1 ⟨L2, c1, c2, rfl, hL2, h1', h2', hU⟩
  have hr1 := read2_any lb L2 c1 c2 v redo 0 _ w1 (HM.out w1 A (HL.out.other hU)) hL2 h1' h2'
  have HU := Lib.hid hU
  clear hread hL2 h1' h2' hU HM
  go_wp2_with fail
  refine hr1.mono ?_
  rintro e w2 ⟨rfl, A', hL2, hU2⟩
  have HL2 := Lib.hid hL2
  have HU2 := Lib.hid ((HU.out.mono (fun _ _ h => h.elim)).trans hU2)
  have q := hL2.c12
  have f := hL2.free 12
  clear hr1 hL2 hU2
  go_wp2_with fail
  have hfin := HL2.out.setN (g'.n + 1)
  have HZ := Lib.hid (And.intro hfin.1 (HU2.out.trans hfin.2))
  clear hfin q f
  go_ret
  exact ⟨rfl, A', HZ.out⟩
set_option maxHeartbeats 4000000 in
theorem add_none (g : Lg) (A : LA) (lb : Nat) (v : Int) (h0 : -1 ≤ v) (h1 : v < 2000) (a : Option Addr) (c : Nat) (w : World) (h : LogW w lb g A) (hds : g.ds = [])
    (hv : Vw w a (moveL v true).length c 1 (bvs (moveL v true))) :
    Calls Tryz.prog 21 #[.pointer (some ⟨lb, 0, none⟩), .slice a (moveL v true).length c] w fun e w' => e = .returned (.int .i64 5) ∧ Upd (fun _ => False) w w' := by
  have hread := read_move lb v true h0 (by omega) a c w hv
  have HL := Lib.hid h
  clear h hv
  go_enter Tryz.func21, Tryz.ntmps21
  go_wp2_with fail
  refine hread.mono ?_
  rintro e w1 ⟨L2, c1, c2, rfl, hL2, h1', h2', hU⟩
  have hr1 := read2_any lb L2 c1 c2 v true 5 _ w1 (move_none g A lb v w1 (HL.out.other hU) hds) hL2 h1' h2'
  have HU := Lib.hid hU
  clear hread hL2 h1' h2' hU
  go_wp2_with fail
  refine hr1.mono ?_
  rintro e w2 ⟨rfl, hU2⟩
  have HU2 := Lib.hid (HU.out.trans hU2)
  clear hr1 hU2
  go_wp2_with fail
  go_ret
  exact ⟨rfl, HU2.out⟩
theorem add_undo (g : Lg) (A : LA) (lb : Nat) (v : Int) (x : RRow) (a : Option Addr) (c : Nat) (w : World) (h : LogW w lb g A) (ht0 : 1 ≤ g.top) (ht1 : g.top ≤ 2000) (hx : g.rr[(g.top - 1).toNat]? = some x) (hxv : x.p = v) (hv0 : -1 ≤ v) (hv1 : v < 2000) (hd : g.ds.length ≤ 100000)
    (hn0 : 0 ≤ g.n) (hn1 : g.n ≤ 100000) (hv : Vw w a (moveL v false).length c 1 (bvs (moveL v false))) :
    Calls Tryz.prog 21 #[.pointer (some ⟨lb, 0, none⟩), .slice a (moveL v false).length c] w fun e w' => e = .returned (.int .i64 0) ∧ ∃ A', LogW w' lb ⟨g.rr, g.fs, g.cs, v + 1, g.ds ++ [g.top - 1], g.n + 1⟩ A' ∧ Upd (fun q => q = lb) w w' :=
  add_move g ⟨g.rr, g.fs, g.cs, v + 1, g.ds ++ [g.top - 1], g.n⟩ A lb v false hv0 hv1 a c w h hn0 hn1 (fun w1 A1 h1 => move_undo g A1 lb v x w1 h1 ht0 ht1 hx hxv hv0 hv1 hd) hv
theorem add_redo (g : Lg) (A : LA) (lb : Nat) (v : Int) (D : List Int) (a : Option Addr) (c : Nat) (w : World) (h : LogW w lb g A) (hds : g.ds = D ++ [v]) (hv0 : -1 ≤ v) (hv1 : v < 2000) (hd : g.ds.length ≤ 100000)
    (hn0 : 0 ≤ g.n) (hn1 : g.n ≤ 100000) (hv : Vw w a (moveL v true).length c 1 (bvs (moveL v true))) :
    Calls Tryz.prog 21 #[.pointer (some ⟨lb, 0, none⟩), .slice a (moveL v true).length c] w fun e w' => e = .returned (.int .i64 0) ∧ ∃ A', LogW w' lb ⟨g.rr, g.fs, g.cs, v + 1, D, g.n + 1⟩ A' ∧ Upd (fun q => q = lb) w w' :=
  add_move g ⟨g.rr, g.fs, g.cs, v + 1, D, g.n⟩ A lb v true hv0 hv1 a c w h hn0 hn1 (fun w1 A1 h1 => move_redo g A1 lb v D w1 h1 hds hv0 hv1 hd) hv
end Go.Proofs.YtccejkikphpnfaaGreatDoor
