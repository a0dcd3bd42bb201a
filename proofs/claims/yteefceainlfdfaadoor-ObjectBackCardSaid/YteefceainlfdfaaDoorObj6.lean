
/- Blob of both; object.Tree. -/
import Derived.Test.YteefceainlfdfaaDoorObj5
namespace Go.Proofs.YteefceainlfdfaaDoor
set_option linter.unusedSimpArgs false
set_option linter.unusedVariables false
set_option maxRecDepth 100000
open Go.ChangeShapes Go.WideShapes Go.ChangeAt Go.RowKit

def blobE (s : List UInt8) : Int := if 20000 < s.length then 6 else 0
def blobL (s : List UInt8) : List UInt8 := if 20000 < s.length then [] else 1 :: s
theorem lit_own (w : World) (x : UInt8) : (w.alloc (.cells #[.int .u8 (x.toNat : Int)] 5)).ownsRow 0 5 1 (.slice (some ⟨w.heap.size, 0, none⟩) 1 1) 1 [.int .u8 (x.toNat : Int)] :=
  World.ownsRow_lit (base := 0) (e := 5) (size := 1) w #[.int .u8 (x.toNat : Int)] 1 (Nat.zero_le _) (by decide) rfl

set_option maxHeartbeats 1000000 in
theorem oBlob_any (s : List UInt8) (w : World) : Calls Tryd.prog 16 #[.string (str s)] w (Packed w (blobL s) (blobE s)) := by
  have hsz := str_size s
  by_cases hb : 20000 < s.length
  · have hI : (20000 : Int) < (s.length : Int) := by omega
    have h1 : Hid (blobL s = [] ∧ blobE s = 6) := Lib.hid ⟨by unfold blobL; rw [if_pos hb], by unfold blobE; rw [if_pos hb]⟩
    clear hb
    go_enter Tryd.func16, Tryd.ntmps16
    go_wp2_with fail
    go_ret2
    rw [h1.out.1, h1.out.2]
    exact ⟨none, 0, rfl, Vw.nl _ _, (fun g h => by cases h), Upd.refl _ _⟩
  · have hI : decide ((20000 : Int) < (s.length : Int)) = false := by rw [decide_eq_false_iff_not]; omega
    have h1 : Hid (blobL s = 1 :: s ∧ blobE s = 0) := Lib.hid ⟨by unfold blobL; rw [if_neg hb], by unfold blobE; rw [if_neg hb]⟩
    obtain ⟨i0, hi, hz0, hz1, hz2⟩ := info_parts infoU8
    have hown : (w.alloc (.cells #[.int .u8 1] 5)).ownsRow 0 5 1 (.slice (some ⟨w.heap.size, 0, none⟩) 1 1) 1 [.int .u8 1] := lit_own w 1
    have hU1 := Upd.alloc (fun _ => False) w (.cells #[.int .u8 1] 5)
    have hsrc : Src Tryd.prog 1 9 (.string (str s)) s.length (bvs s) (w.alloc (.cells #[.int .u8 1] 5)) := by
      have := Src.ofString (P := Tryd.prog) (w.alloc (.cells #[.int .u8 1] 5)) Tryd.underlying9 (str s)
      rw [str_size] at this
      exact this
    have hlt : w.heap.size < (w.alloc (.cells #[.int .u8 1] 5)).heap.size := by simp
    go_enter Tryd.func16, Tryd.ntmps16
    go_wp2_with (at_builtin; refine wpList_app _ rfl (.tmp 7) (.tmp 8) 28 9 rfl 5 i0 (.int .u8 0) 1 1 Tryd.underlying28 hi hz0 hz1 hz2 rfl (some ⟨w.heap.size, 0, none⟩) 1 1 [.int .u8 1] rfl hown (.string (str s)) s.length (bvs s) rfl hsrc ?_ ?_ ?_)
    · unfold maxLen; omega
    · omega
    intro a2 c2 w2 hown2 hg2 hat2 hnil2
    have hU2 := hU1.next (Upd.grown (S := fun k => k = w.heap.size) hg2 (fun k hk => by simpa [blk] using hk.symm)) (fun i hi h => by omega)
    have hf2 : ∀ g, blk a2 = some g → w.heap.size ≤ g := by
      intro g hg'
      rcases hat2 with h | h
      · have := h.symm.trans hg'; simp [blk] at this; omega
      · rw [h] at hg'; cases hg'; simp
    have hrow : w2.ownsRow 0 5 1 (.slice a2 (1 :: s).length c2) (1 :: s).length (bvs (1 :: s)) := by
      rw [List.length_cons, Nat.add_comm]
      exact hown2
    have HF := Lib.hid (And.intro hrow (And.intro hU2 hf2))
    clear hrow hU2 hf2 hown2 hg2 hat2 hnil2 hown hsrc hU1
    go_wp2_with fail
    go_ret2
    obtain ⟨hrow, hU2, hf2⟩ := HF.out
    rw [h1.out.1, h1.out.2]
    exact ⟨a2, c2, by rw [List.length_cons, Nat.add_comm]; rfl, Vw.of_own hrow, (fun g hg => ⟨hf2 g hg, (hrow.lt g ((own_blk _ _ _).trans hg)).2⟩), hU2⟩

set_option maxHeartbeats 1000000 in
theorem r15Blob_any (s : List UInt8) (w : World) : Calls Tryd.prog 17 #[.string (str s)] w (Packed w (blobL s) (blobE s)) := by
  have hsz := str_size s
  by_cases hb : 20000 < s.length
  · have hI : (20000 : Int) < (s.length : Int) := by omega
    have h1 : Hid (blobL s = [] ∧ blobE s = 6) := Lib.hid ⟨by unfold blobL; rw [if_pos hb], by unfold blobE; rw [if_pos hb]⟩
    clear hb
    go_enter Tryd.func17, Tryd.ntmps17
    go_wp2_with fail
    go_ret2
    rw [h1.out.1, h1.out.2]
    exact ⟨none, 0, rfl, Vw.nl _ _, (fun g h => by cases h), Upd.refl _ _⟩
  · have hI : decide ((20000 : Int) < (s.length : Int)) = false := by rw [decide_eq_false_iff_not]; omega
    have h1 : Hid (blobL s = 1 :: s ∧ blobE s = 0) := Lib.hid ⟨by unfold blobL; rw [if_neg hb], by unfold blobE; rw [if_neg hb]⟩
    obtain ⟨i0, hi, hz0, hz1, hz2⟩ := info_parts infoU8
    have hown : (w.alloc (.cells #[.int .u8 1] 5)).ownsRow 0 5 1 (.slice (some ⟨w.heap.size, 0, none⟩) 1 1) 1 [.int .u8 1] := lit_own w 1
    have hU1 := Upd.alloc (fun _ => False) w (.cells #[.int .u8 1] 5)
    have hsrc : Src Tryd.prog 1 9 (.string (str s)) s.length (bvs s) (w.alloc (.cells #[.int .u8 1] 5)) := by
      have := Src.ofString (P := Tryd.prog) (w.alloc (.cells #[.int .u8 1] 5)) Tryd.underlying9 (str s)
      rw [str_size] at this
      exact this
    have hlt : w.heap.size < (w.alloc (.cells #[.int .u8 1] 5)).heap.size := by simp
    go_enter Tryd.func17, Tryd.ntmps17
    go_wp2_with (at_builtin; refine wpList_app _ rfl (.tmp 7) (.tmp 8) 28 9 rfl 5 i0 (.int .u8 0) 1 1 Tryd.underlying28 hi hz0 hz1 hz2 rfl (some ⟨w.heap.size, 0, none⟩) 1 1 [.int .u8 1] rfl hown (.string (str s)) s.length (bvs s) rfl hsrc ?_ ?_ ?_)
    · unfold maxLen; omega
    · omega
    intro a2 c2 w2 hown2 hg2 hat2 hnil2
    have hU2 := hU1.next (Upd.grown (S := fun k => k = w.heap.size) hg2 (fun k hk => by simpa [blk] using hk.symm)) (fun i hi h => by omega)
    have hf2 : ∀ g, blk a2 = some g → w.heap.size ≤ g := by
      intro g hg'
      rcases hat2 with h | h
      · have := h.symm.trans hg'; simp [blk] at this; omega
      · rw [h] at hg'; cases hg'; simp
    have hrow : w2.ownsRow 0 5 1 (.slice a2 (1 :: s).length c2) (1 :: s).length (bvs (1 :: s)) := by
      rw [List.length_cons, Nat.add_comm]
      exact hown2
    have HF := Lib.hid (And.intro hrow (And.intro hU2 hf2))
    clear hrow hU2 hf2 hown2 hg2 hat2 hnil2 hown hsrc hU1
    go_wp2_with fail
    go_ret2
    obtain ⟨hrow, hU2, hf2⟩ := HF.out
    rw [h1.out.1, h1.out.2]
    exact ⟨a2, c2, by rw [List.length_cons, Nat.add_comm]; rfl, Vw.of_own hrow, (fun g hg => ⟨hf2 g hg, (hrow.lt g ((own_blk _ _ _).trans hg)).2⟩), hU2⟩
end Go.Proofs.YteefceainlfdfaaDoor
