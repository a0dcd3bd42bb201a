
/- metalog.PackMove, PackDrop; the log's answers; New. -/
import Derived.Test.YtccejkikphpnfaaGreatDoorMet6
namespace Go.Proofs.YtccejkikphpnfaaGreatDoor
set_option linter.unusedSimpArgs false
set_option linter.unusedVariables false
set_option maxRecDepth 100000
open Go.ChangeShapes Go.WideShapes Go.ChangeAt Go.RowKit

def moveL (v : Int) (redo : Bool) : List UInt8 := [2] ++ i4 v ++ b1 redo
/-- Bytes made in memory of their own. -/
def Made (w : World) (l : List UInt8) (e : Ending) (w' : World) : Prop :=
  ∃ a c, e = .returned (.slice a l.length c) ∧ Vw w' a l.length c 1 (bvs l) ∧ (∀ g, blk a = some g → w.heap.size ≤ g ∧ g < w'.heap.size) ∧ Upd (fun _ => False) w w'
set_option maxHeartbeats 4000000 in
theorem mPackMove_any (v : Int) (redo : Bool) (w : World) : Calls Tryz.prog 16 #[.int .i64 v, .bool redo] w (Made w (moveL v redo)) := by
  obtain ⟨K, hK, hW⟩ := Wn.fresh w 86
  have HK := Lib.hid hK
  have HW0 := Lib.hid hW
  clear hK hW
  have HD : Hid (moveL v redo = [2] ++ i4 v ++ b1 redo) := Lib.hid rfl
  generalize moveL v redo = LL at *
  go_enter Tryz.func16, Tryz.ntmps16
  go_upto_region 2 with (fail)
  have hW := HW0.out
  generalize w.alloc (Obj.cells #[Value.slice none 0 0] 86) = x0 at *
  obtain ⟨bw, hbw0⟩ : ∃ bw, w.heap.size = bw := ⟨_, rfl⟩
  rw [hbw0] at hW ⊢
  clear HW0 hbw0
  go_wp2_with fail
  refine (wn_num hW (by simp) 2 1 1 (by omega) (by omega) rfl).mono ?_
  rintro e x1 ⟨rfl, hW1⟩
  clear hW
  have hW := hW1
  clear hW1
  have hl1 : ([] : List UInt8) ++ le (2 : Int).toNat 1 = [2] := rfl
  rw [hl1] at hW
  clear hl1
  go_wp2_with fail
  refine (wn_int hW (by simp) v).mono ?_
  rintro e x1 ⟨rfl, hW1⟩
  clear hW
  have hW := hW1
  clear hW1
  have hl2 : (([2] : List UInt8) ++ i4 v).length ≤ 5 := by rw [List.length_append, i4_length]; simp
  go_wp2_with fail
  refine (wn_bool hW (by omega) redo).mono ?_
  rintro e x1 ⟨rfl, hW1⟩
  clear hW
  have hl3 : LL.length ≤ 6 := by rw [HD.out, List.length_append]; simp only [b1, List.length_cons, List.length_nil]; omega
  rw [← HD.out] at hW1
  have HC := Lib.hid (hW1.old HK.out)
  go_wp2_with fail
  refine (wn_bytes hW1 (by omega)).mono ?_
  rintro e x2 ⟨a2, c2, rfl, hown, hfr, hU3⟩
  have hz := HC.out.size
  have HF := Lib.hid (And.intro (HC.out.trans hU3) (And.intro (Vw.of_own hown) (fun g (hg : blk a2 = some g) => And.intro (Nat.le_trans hz (hfr g hg)) (hown.lt g ((own_blk _ _ _).trans hg)).2)))
  clear hz hown hfr hU3 hW1
  go_wp2_with fail
  go_ret
  exact ⟨a2, c2, rfl, HF.out.2.1, HF.out.2.2, HF.out.1⟩

theorem mNew_any (w : World) : Calls Tryz.prog 20 #[] w fun e w' => ∃ lb, e = .returned (.pointer (some ⟨lb, 0, none⟩)) ∧ LogW w' lb ⟨[], [], [], 0, [], 0⟩ ⟨none, 0, none, 0, none, 0, none, 0⟩ ∧ Upd (fun _ => False) w w' ∧ w.heap.size ≤ lb := by
  have hU := Upd.alloc (fun _ => False) w (.cells (logA ⟨[], [], [], 0, [], 0⟩ ⟨none, 0, none, 0, none, 0, none, 0⟩) 105)
  have hrow := heap_alloc_new w (.cells (logA ⟨[], [], [], 0, [], 0⟩ ⟨none, 0, none, 0, none, 0, none, 0⟩) 105)
  have hL : LogW (w.alloc (.cells (logA ⟨[], [], [], 0, [], 0⟩ ⟨none, 0, none, 0, none, 0, none, 0⟩) 105)) w.heap.size ⟨[], [], [], 0, [], 0⟩ ⟨none, 0, none, 0, none, 0, none, 0⟩ :=
    ⟨hrow, Vw.nl _ _, Vw.nl _ _, Vw.nl _ _, Vw.nl _ _, (fun q e => by cases e), (fun q e => by cases e), (fun q e => by cases e), (fun q e => by cases e)⟩
  unfold logA at hU hL
  have HF := Lib.hid (And.intro hL hU)
  clear hU hrow hL
  go_enter Tryz.func20, Tryz.ntmps20
  go_wp2_with fail
  go_ret
  exact ⟨_, rfl, HF.out.1, HF.out.2, Nat.le_refl _⟩
section
variable {w : World} {lb : Nat} {g : Lg} {A : LA}
theorem mAt_any (h : LogW w lb g A) (h0 : 0 ≤ g.top) (h1 : g.top ≤ 100000) : Calls Tryz.prog 24 #[.pointer (some ⟨lb, 0, none⟩)] w fun e w' => e = .returned (.int .i64 (g.top - 1)) ∧ w = w' := by
  have q := h.c3
  have hw : IntKind.i64.wrap (g.top - 1) = g.top - 1 := IntWalk.i64_in _ (by omega)
  clear h
  go_enter Tryz.func24, Tryz.ntmps24
  go_wp2_with fail
  go_ret
  exact ⟨rfl, rfl⟩
theorem mRecords_any (h : LogW w lb g A) : Calls Tryz.prog 25 #[.pointer (some ⟨lb, 0, none⟩)] w fun e w' => e = .returned (.int .i64 g.n) ∧ w = w' := by
  have q := h.c12
  clear h
  go_enter Tryz.func25, Tryz.ntmps25
  go_wp2_with fail
  go_ret
  exact ⟨rfl, rfl⟩
end
end Go.Proofs.YtccejkikphpnfaaGreatDoor
