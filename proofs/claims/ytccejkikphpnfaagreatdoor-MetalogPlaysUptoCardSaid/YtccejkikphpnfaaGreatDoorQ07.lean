
/- Keys read one by one; a root that is read. -/
import Derived.Test.YtccejkikphpnfaaGreatDoorQ06
namespace Go.Proofs.YtccejkikphpnfaaGreatDoor
set_option linter.unusedSimpArgs false
set_option linter.unusedVariables false
set_option maxRecDepth 100000
open Go.ChangeShapes Go.WideShapes Go.ChangeAt Go.RowKit
def byteS (s : RS) : UInt8 := UInt8.ofNat (leN (takeS 1 s).1)
def keyN : Nat → RS → List UInt8 × RS
 | 0, s => ([], s)
 | n + 1, s => ((keyN n s).1 ++ [byteS (keyN n s).2], (takeS 1 (keyN n s).2).2)
theorem keyN_len (n : Nat) (s : RS) : (keyN n s).1.length = n := by
 induction n with
 | zero => rfl
 | succ n ih => simp [keyN, ih]
theorem keyN_le (n : Nat) (s : RS) : (keyN n s).2.l.length ≤ s.l.length := by
 induction n with
 | zero => exact Nat.le_refl _
 | succ n ih => exact Nat.le_trans (takeS_len 1 _) ih
def keyS (s : RS) : List UInt8 × RS := keyN 32 s
theorem keyS_len (s : RS) : (keyS s).1.length = 32 := keyN_len 32 s
theorem byte_wrap (n : Nat) : IntKind.u8.wrap (n : Int) = ((UInt8.ofNat n).toNat : Int) := by
 rw [UInt8.toNat_ofNat']
 show (n : Int) % 256 = _
 omega
def keyRow (k : List UInt8) (j : Nat) : Array Value := (bvs (k ++ List.replicate (32 - j) 0)).toArray
theorem keyRow_at (k : List UInt8) (j : Nat) (hk : k.length = j) (hj : j < 32) : (keyRow k j)[j]? = some (.int .u8 0) := by
 unfold keyRow
 rw [List.getElem?_toArray, bvs_append, List.getElem?_append_right (by rw [bvs_length, hk]; exact Nat.le_refl _), bvs_length, hk, Nat.sub_self, show 32 - j = (32 - (j + 1)) + 1 from by omega, List.replicate_succ]
 rfl
theorem keyRow_set (k : List UInt8) (j : Nat) (hk : k.length = j) (hj : j < 32) (x : UInt8) : (keyRow k j).setIfInBounds j (bv x) = keyRow (k ++ [x]) (j + 1) := by
 unfold keyRow
 rw [List.setIfInBounds_toArray, bvs_append, bvs_append, bvs_append, show 32 - j = (32 - (j + 1)) + 1 from by omega, List.replicate_succ]
 rw [List.set_append_right _ _ (by rw [bvs_length, hk]; exact Nat.le_refl _), bvs_length, hk, Nat.sub_self]
 simp [bvs]
set_option maxHeartbeats 4000000 in
theorem mrkey_any (br : Nat) (F : Option Nat) (s : RS) (w : World) (hr : Rd w br F s.l s.e) (hF : ∀ g, F = some g → g < w.heap.size) (hl : s.l.length ≤ 100000000) :
  Calls Tryz.prog 132 #[.agg #[.pointer (some ⟨br, 0, none⟩)]] w fun e w' => e = .returned (.agg (bvs (keyS s).1).toArray) ∧ Rd w' br F (keyS s).2.l (keyS s).2.e ∧ Upd (fun k => k = br) w w' := by
 have hbr : br < w.heap.size := by
  obtain ⟨a, c, hh, _⟩ := hr.ex
  exact lt_of_heap hh
 go_enter Tryz.func132, Tryz.ntmps132
 go_upto_region 2 with (fail)
 have hU0 : Upd (fun _ => False) w (((w.alloc (.cells #[.pointer (some ⟨br, 0, none⟩)] 139)).alloc (.cells #[.int .u8 0, .int .u8 0, .int .u8 0, .int .u8 0, .int .u8 0, .int .u8 0, .int .u8 0, .int .u8 0, .int .u8 0, .int .u8 0, .int .u8 0, .int .u8 0, .int .u8 0, .int .u8 0, .int .u8 0, .int .u8 0, .int .u8 0, .int .u8 0, .int .u8 0, .int .u8 0, .int .u8 0, .int .u8 0, .int .u8 0, .int .u8 0, .int .u8 0, .int .u8 0, .int .u8 0, .int .u8 0, .int .u8 0, .int .u8 0, .int .u8 0, .int .u8 0] 52)).alloc (.cells #[.int .u8 0, .int .u8 0, .int .u8 0, .int .u8 0, .int .u8 0, .int .u8 0, .int .u8 0, .int .u8 0, .int .u8 0, .int .u8 0, .int .u8 0, .int .u8 0, .int .u8 0, .int .u8 0, .int .u8 0, .int .u8 0, .int .u8 0, .int .u8 0, .int .u8 0, .int .u8 0, .int .u8 0, .int .u8 0, .int .u8 0, .int .u8 0, .int .u8 0, .int .u8 0, .int .u8 0, .int .u8 0, .int .u8 0, .int .u8 0, .int .u8 0, .int .u8 0] 52)) := ((Upd.alloc _ _ _).trans (Upd.alloc _ _ _)).trans (Upd.alloc _ _ _)
 have h0 : (((w.alloc (.cells #[.pointer (some ⟨br, 0, none⟩)] 139)).alloc (.cells #[.int .u8 0, .int .u8 0, .int .u8 0, .int .u8 0, .int .u8 0, .int .u8 0, .int .u8 0, .int .u8 0, .int .u8 0, .int .u8 0, .int .u8 0, .int .u8 0, .int .u8 0, .int .u8 0, .int .u8 0, .int .u8 0, .int .u8 0, .int .u8 0, .int .u8 0, .int .u8 0, .int .u8 0, .int .u8 0, .int .u8 0, .int .u8 0, .int .u8 0, .int .u8 0, .int .u8 0, .int .u8 0, .int .u8 0, .int .u8 0, .int .u8 0, .int .u8 0] 52)).alloc (.cells #[.int .u8 0, .int .u8 0, .int .u8 0, .int .u8 0, .int .u8 0, .int .u8 0, .int .u8 0, .int .u8 0, .int .u8 0, .int .u8 0, .int .u8 0, .int .u8 0, .int .u8 0, .int .u8 0, .int .u8 0, .int .u8 0, .int .u8 0, .int .u8 0, .int .u8 0, .int .u8 0, .int .u8 0, .int .u8 0, .int .u8 0, .int .u8 0, .int .u8 0, .int .u8 0, .int .u8 0, .int .u8 0, .int .u8 0, .int .u8 0, .int .u8 0, .int .u8 0] 52)).heap[w.heap.size]? = some (.cells #[.pointer (some ⟨br, 0, none⟩)] 139) := by
  rw [Below.heap_alloc _ _ _ (by simp <;> omega), Below.heap_alloc _ _ _ (by simp)]; exact heap_alloc_new _ _
 have h1 : (((w.alloc (.cells #[.pointer (some ⟨br, 0, none⟩)] 139)).alloc (.cells #[.int .u8 0, .int .u8 0, .int .u8 0, .int .u8 0, .int .u8 0, .int .u8 0, .int .u8 0, .int .u8 0, .int .u8 0, .int .u8 0, .int .u8 0, .int .u8 0, .int .u8 0, .int .u8 0, .int .u8 0, .int .u8 0, .int .u8 0, .int .u8 0, .int .u8 0, .int .u8 0, .int .u8 0, .int .u8 0, .int .u8 0, .int .u8 0, .int .u8 0, .int .u8 0, .int .u8 0, .int .u8 0, .int .u8 0, .int .u8 0, .int .u8 0, .int .u8 0] 52)).alloc (.cells #[.int .u8 0, .int .u8 0, .int .u8 0, .int .u8 0, .int .u8 0, .int .u8 0, .int .u8 0, .int .u8 0, .int .u8 0, .int .u8 0, .int .u8 0, .int .u8 0, .int .u8 0, .int .u8 0, .int .u8 0, .int .u8 0, .int .u8 0, .int .u8 0, .int .u8 0, .int .u8 0, .int .u8 0, .int .u8 0, .int .u8 0, .int .u8 0, .int .u8 0, .int .u8 0, .int .u8 0, .int .u8 0, .int .u8 0, .int .u8 0, .int .u8 0, .int .u8 0] 52)).heap[w.heap.size + 1]? = some (.cells #[.int .u8 0, .int .u8 0, .int .u8 0, .int .u8 0, .int .u8 0, .int .u8 0, .int .u8 0, .int .u8 0, .int .u8 0, .int .u8 0, .int .u8 0, .int .u8 0, .int .u8 0, .int .u8 0, .int .u8 0, .int .u8 0, .int .u8 0, .int .u8 0, .int .u8 0, .int .u8 0, .int .u8 0, .int .u8 0, .int .u8 0, .int .u8 0, .int .u8 0, .int .u8 0, .int .u8 0, .int .u8 0, .int .u8 0, .int .u8 0, .int .u8 0, .int .u8 0] 52) := by
  rw [Below.heap_alloc _ _ _ (by simp)]
  have := heap_alloc_new (w.alloc (.cells #[.pointer (some ⟨br, 0, none⟩)] 139)) (.cells #[.int .u8 0, .int .u8 0, .int .u8 0, .int .u8 0, .int .u8 0, .int .u8 0, .int .u8 0, .int .u8 0, .int .u8 0, .int .u8 0, .int .u8 0, .int .u8 0, .int .u8 0, .int .u8 0, .int .u8 0, .int .u8 0, .int .u8 0, .int .u8 0, .int .u8 0, .int .u8 0, .int .u8 0, .int .u8 0, .int .u8 0, .int .u8 0, .int .u8 0, .int .u8 0, .int .u8 0, .int .u8 0, .int .u8 0, .int .u8 0, .int .u8 0, .int .u8 0] 52)
  simpa using this
 have h2 : (((w.alloc (.cells #[.pointer (some ⟨br, 0, none⟩)] 139)).alloc (.cells #[.int .u8 0, .int .u8 0, .int .u8 0, .int .u8 0, .int .u8 0, .int .u8 0, .int .u8 0, .int .u8 0, .int .u8 0, .int .u8 0, .int .u8 0, .int .u8 0, .int .u8 0, .int .u8 0, .int .u8 0, .int .u8 0, .int .u8 0, .int .u8 0, .int .u8 0, .int .u8 0, .int .u8 0, .int .u8 0, .int .u8 0, .int .u8 0, .int .u8 0, .int .u8 0, .int .u8 0, .int .u8 0, .int .u8 0, .int .u8 0, .int .u8 0, .int .u8 0] 52)).alloc (.cells #[.int .u8 0, .int .u8 0, .int .u8 0, .int .u8 0, .int .u8 0, .int .u8 0, .int .u8 0, .int .u8 0, .int .u8 0, .int .u8 0, .int .u8 0, .int .u8 0, .int .u8 0, .int .u8 0, .int .u8 0, .int .u8 0, .int .u8 0, .int .u8 0, .int .u8 0, .int .u8 0, .int .u8 0, .int .u8 0, .int .u8 0, .int .u8 0, .int .u8 0, .int .u8 0, .int .u8 0, .int .u8 0, .int .u8 0, .int .u8 0, .int .u8 0, .int .u8 0] 52)).heap[w.heap.size + 1 + 1]? = some (.cells (keyRow [] 0) 52) := by
  have := heap_alloc_new ((w.alloc (.cells #[.pointer (some ⟨br, 0, none⟩)] 139)).alloc (.cells #[.int .u8 0, .int .u8 0, .int .u8 0, .int .u8 0, .int .u8 0, .int .u8 0, .int .u8 0, .int .u8 0, .int .u8 0, .int .u8 0, .int .u8 0, .int .u8 0, .int .u8 0, .int .u8 0, .int .u8 0, .int .u8 0, .int .u8 0, .int .u8 0, .int .u8 0, .int .u8 0, .int .u8 0, .int .u8 0, .int .u8 0, .int .u8 0, .int .u8 0, .int .u8 0, .int .u8 0, .int .u8 0, .int .u8 0, .int .u8 0, .int .u8 0, .int .u8 0] 52)) (.cells #[.int .u8 0, .int .u8 0, .int .u8 0, .int .u8 0, .int .u8 0, .int .u8 0, .int .u8 0, .int .u8 0, .int .u8 0, .int .u8 0, .int .u8 0, .int .u8 0, .int .u8 0, .int .u8 0, .int .u8 0, .int .u8 0, .int .u8 0, .int .u8 0, .int .u8 0, .int .u8 0, .int .u8 0, .int .u8 0, .int .u8 0, .int .u8 0, .int .u8 0, .int .u8 0, .int .u8 0, .int .u8 0, .int .u8 0, .int .u8 0, .int .u8 0, .int .u8 0] 52)
  have e : keyRow [] 0 = #[.int .u8 0, .int .u8 0, .int .u8 0, .int .u8 0, .int .u8 0, .int .u8 0, .int .u8 0, .int .u8 0, .int .u8 0, .int .u8 0, .int .u8 0, .int .u8 0, .int .u8 0, .int .u8 0, .int .u8 0, .int .u8 0, .int .u8 0, .int .u8 0, .int .u8 0, .int .u8 0, .int .u8 0, .int .u8 0, .int .u8 0, .int .u8 0, .int .u8 0, .int .u8 0, .int .u8 0, .int .u8 0, .int .u8 0, .int .u8 0, .int .u8 0, .int .u8 0] := rfl
  rw [e]
  simpa using this
 generalize ((w.alloc (.cells #[.pointer (some ⟨br, 0, none⟩)] 139)).alloc (.cells #[.int .u8 0, .int .u8 0, .int .u8 0, .int .u8 0, .int .u8 0, .int .u8 0, .int .u8 0, .int .u8 0, .int .u8 0, .int .u8 0, .int .u8 0, .int .u8 0, .int .u8 0, .int .u8 0, .int .u8 0, .int .u8 0, .int .u8 0, .int .u8 0, .int .u8 0, .int .u8 0, .int .u8 0, .int .u8 0, .int .u8 0, .int .u8 0, .int .u8 0, .int .u8 0, .int .u8 0, .int .u8 0, .int .u8 0, .int .u8 0, .int .u8 0, .int .u8 0] 52)).alloc (.cells #[.int .u8 0, .int .u8 0, .int .u8 0, .int .u8 0, .int .u8 0, .int .u8 0, .int .u8 0, .int .u8 0, .int .u8 0, .int .u8 0, .int .u8 0, .int .u8 0, .int .u8 0, .int .u8 0, .int .u8 0, .int .u8 0, .int .u8 0, .int .u8 0, .int .u8 0, .int .u8 0, .int .u8 0, .int .u8 0, .int .u8 0, .int .u8 0, .int .u8 0, .int .u8 0, .int .u8 0, .int .u8 0, .int .u8 0, .int .u8 0, .int .u8 0, .int .u8 0] 52) = y0 at *
 obtain ⟨B0, hB0⟩ : ∃ B, B = w.heap.size := ⟨_, rfl⟩
 obtain ⟨B1, hB1⟩ : ∃ B, B = w.heap.size + 1 := ⟨_, rfl⟩
 obtain ⟨B2, hB2⟩ : ∃ B, B = w.heap.size + 1 + 1 := ⟨_, rfl⟩
 rw [← hB2] at h2 ⊢
 rw [← hB1] at h1 ⊢
 rw [← hB0] at h0 ⊢
 have HB := Lib.hid (And.intro hB0 (And.intro hB1 (And.intro hB2 (And.intro hbr hF))))
 have HI := Lib.hid (And.intro (hr.upd hU0 (fun h => h) (fun _ _ h => h)) (And.intro h2 (And.intro (And.intro h1 h0) hU0)))
 clear hB0 hB1 hB2 hbr hF hr h0 h1 h2 hU0
 go_wp2_with fail
 go_loopw [5] (fun i wx => ∃ j : Nat, j ≤ 32 ∧ i = .int .i64 (j : Int) ∧ Hid (Rd wx br F (keyN j s).2.l (keyN j s).2.e ∧ wx.heap[B2]? = some (.cells (keyRow (keyN j s).1 j) 52) ∧ (wx.heap[B1]? = some (.cells #[.int .u8 0, .int .u8 0, .int .u8 0, .int .u8 0, .int .u8 0, .int .u8 0, .int .u8 0, .int .u8 0, .int .u8 0, .int .u8 0, .int .u8 0, .int .u8 0, .int .u8 0, .int .u8 0, .int .u8 0, .int .u8 0, .int .u8 0, .int .u8 0, .int .u8 0, .int .u8 0, .int .u8 0, .int .u8 0, .int .u8 0, .int .u8 0, .int .u8 0, .int .u8 0, .int .u8 0, .int .u8 0, .int .u8 0, .int .u8 0, .int .u8 0, .int .u8 0] 52) ∧ wx.heap[B0]? = some (.cells #[.pointer (some ⟨br, 0, none⟩)] 139)) ∧ Upd (fun k => k = br) w wx)) (fun i _ => 32 - (intOf i).toNat)
 case atStart => exact ⟨0, by omega, rfl, Lib.hid ⟨HI.out.1, HI.out.2.1, HI.out.2.2.1, HI.out.2.2.2.mono (fun _ _ h => h.elim)⟩⟩
 case round =>
  clear HI
  obtain ⟨j, hj, rfl, HI⟩ := hrel
  by_cases hlt : j < 32
  ·have hI : (j : Int) < 32 := by omega
   have hq : wr.cell? ⟨B0, 0, none⟩ = some (.pointer (some ⟨br, 0, none⟩)) := by
    rw [cell_of_row _ _ _ _ _ _ HI.out.2.2.1.2]; rfl
   have hsucc : keyN (j + 1) s = ((keyN j s).1 ++ [byteS (keyN j s).2], (takeS 1 (keyN j s).2).2) := rfl
   have hlen := keyN_len j s
   have hle := keyN_le j s
   have hnum := rnum_any br F (keyN j s).2 1 wr HI.out.1 (by omega)
   rw [show heldN 1 = 1 from rfl] at hnum
   have hbw := byte_wrap (leN (takeS 1 (keyN j s).2).1)
   have hbs : byteS (keyN j s).2 = UInt8.ofNat (leN (takeS 1 (keyN j s).2).1) := rfl
   rw [← hbs] at hbw
   generalize leN (takeS 1 (keyN j s).2).1 = v at *
   generalize (takeS 1 (keyN j s).2).2 = s2 at *
   generalize byteS (keyN j s).2 = x at *
   generalize (keyN j s).1 = k at *
   have HS := Lib.hid (And.intro hsucc hlen)
   clear hsucc hlen hle hbs
   go_wp2_with fail
   refine hnum.mono ?_
   unfold ReadN
   rintro e w2 ⟨rfl, hR, hU⟩
   have hn1 : ¬ B1 = br := by have := HB.out.2.1; have := HB.out.2.2.2.1; omega
   have hn2 : ¬ B2 = br := by have := HB.out.2.2.1; have := HB.out.2.2.2.1; omega
   have hrow := (hU.block B2 (lt_of_heap HI.out.2.1) hn2).trans HI.out.2.1
   have hrow1 := (hU.block B1 (lt_of_heap HI.out.2.2.1.1) hn1).trans HI.out.2.2.1.1
   have hc : w2.cell? ⟨B2, j, none⟩ = some (.int .u8 0) := by
    rw [cell_of_row _ _ _ _ _ _ hrow]; exact keyRow_at k j HS.out.2 hlt
   have hf : w2.frozen? ⟨B2, j, none⟩ = false := free_row hrow
   have hrow' := setCell_heap j (bv x) hrow
   rw [keyRow_set k j HS.out.2 hlt x] at hrow'
   have hUs := Upd.setCell (S := fun k => k = B2) w2 (p := ⟨B2, j, none⟩) rfl (bv x)
   have hR' := hR.upd hUs (fun h => hn2 h.symm) (fun g hg h => by have := HB.out.2.2.2.2 g hg; have := HB.out.2.2.1; omega)
   have hn12 : ¬ B1 = B2 := by have := HB.out.2.1; have := HB.out.2.2.1; omega
   have hrow1' := (hUs.block B1 (lt_of_heap hrow1) hn12).trans hrow1
   have hU' := (HI.out.2.2.2.trans hU).next hUs (fun i hi h => by have := HB.out.2.2.1; omega)
   have hn0 : ¬ B0 = br := by have := HB.out.1; have := HB.out.2.2.2.1; omega
   have hn02 : ¬ B0 = B2 := by have := HB.out.1; have := HB.out.2.2.1; omega
   have hrow0' := (hUs.block B0 (Nat.lt_of_lt_of_le (lt_of_heap HI.out.2.2.1.2) hU.size) hn02).trans ((hU.block B0 (lt_of_heap HI.out.2.2.1.2) hn0).trans HI.out.2.2.1.2)
   have HJ := Lib.hid (And.intro hR' (And.intro hrow' (And.intro (And.intro hrow1' hrow0') hU')))
   unfold bv at HJ
   clear hR hU hrow hrow1 hrow' hUs hR' hrow1' hU' hn1 hn2 hn12 hn0 hn02 hrow0'
   go_wp2_with fail
   go_roundw
   case rel => exact ⟨j + 1, by omega, by first | rfl | go_num, Lib.hid (by rw [HS.out.1]; exact HJ.out)⟩
   case measure => simp [intOf]; omega
  ·obtain rfl : j = 32 := by omega
   have hrg : wr.rangeAt B2 0 (bvs (keyS s).1) := fun i u hu => by
    rw [cell_of_row _ _ _ _ _ _ HI.out.2.1]
    have e : keyRow (keyN 32 s).1 32 = (bvs (keyS s).1).toArray := by unfold keyRow keyS; simp
    rw [e, Nat.zero_add, List.getElem?_toArray]; exact hu
   have hkl := keyS_len s
   have hr1 := HI.out.2.2.1.1
   have hsz : (Tryz.prog.info? 52).map (·.size) = some (bvs (keyS s).1).toArray.size := by rw [infoKey]; simp [bvs, hkl]
   have hone : (bvs (keyS s).1).toArray.all (·.oneCell') = true := by simp [bvs, bv, Value.oneCell']
   have hz : (#[.int .u8 0, .int .u8 0, .int .u8 0, .int .u8 0, .int .u8 0, .int .u8 0, .int .u8 0, .int .u8 0, .int .u8 0, .int .u8 0, .int .u8 0, .int .u8 0, .int .u8 0, .int .u8 0, .int .u8 0, .int .u8 0, .int .u8 0, .int .u8 0, .int .u8 0, .int .u8 0, .int .u8 0, .int .u8 0, .int .u8 0, .int .u8 0, .int .u8 0, .int .u8 0, .int .u8 0, .int .u8 0, .int .u8 0, .int .u8 0, .int .u8 0, .int .u8 0] : Array Value).size = (bvs (keyS s).1).toArray.size := by simp [bvs, hkl]
   have hkk : keyN 32 s = keyS s := rfl
   have HX := Lib.hid (And.intro hsz (And.intro hone hz))
   clear hsz hone hz
   go_wp2_with first
    | refine wpList_load_key rfl (.tmp 3) rfl B2 0 rfl (keyS s).1 hkl hrg ?_
    | refine wpList_store_row rfl 52 (.tmp 2) (.tmp 15) rfl B1 (bvs (keyS s).1).toArray _ 52 rfl rfl hr1 HX.out.1 HX.out.2.2 HX.out.2.1 ?_
   have hUs := Upd.setRow (S := fun k => k = B1) wr rfl (bvs (keyS s).1).toArray
   have hn1 : ¬ B1 = br := by have := HB.out.2.1; have := HB.out.2.2.2.1; omega
   refine ret_row rfl B1 (bvs (keyS s).1).toArray 52 (0, 0) _ rfl (setRow_heap _ _ _ _ _ _ hr1) Tryz.underlying52 rfl HX.out.1 rfl ⟨rfl, ?_, ?_⟩
   ·have := HI.out.1.upd hUs (fun h => hn1 h.symm) (fun g hg h => by have := HB.out.2.2.2.2 g hg; have := HB.out.2.1; omega)
    rw [hkk] at this
    exact this
   ·exact HI.out.2.2.2.next hUs (fun i hi h => by have := HB.out.2.1; omega)
theorem keyN_app (n : Nat) (k r : List UInt8) (h : n ≤ k.length) : keyN n ⟨k ++ r, 0⟩ = (k.take n, ⟨k.drop n ++ r, 0⟩) := by
 induction n with
 | zero => simp [keyN]
 | succ n ih =>
  have hn : n < k.length := by omega
  rw [keyN, ih (by omega)]
  have e : k.drop n = [k[n]] ++ k.drop (n + 1) := List.drop_eq_getElem_cons hn
  have hb : ∀ y : UInt8, UInt8.ofNat (leN [y]) = y := fun y => by simp [leN]
  dsimp only
  unfold byteS
  rw [e, List.append_assoc, takeS_app' 1 [k[n]] _ rfl, List.take_succ_eq_append_getElem hn]
  dsimp only
  rw [hb]
theorem keyS_app (k : Ky) (r : List UInt8) : keyS ⟨k.b ++ r, 0⟩ = (k.b, ⟨r, 0⟩) := by
 unfold keyS
 rw [keyN_app 32 k.b r (by rw [k.h]; exact Nat.le_refl _), List.take_of_length_le (by rw [k.h]; exact Nat.le_refl _), List.drop_eq_nil_of_le (by rw [k.h]; exact Nat.le_refl _)]
 rfl
def kyZ : Ky := ⟨key0, rfl⟩
def kyA (x : Ky) : Array Value := (bvs x.b).toArray
theorem kyA_size (x : Ky) : (kyA x).size = 32 := by simp [kyA, bvs, x.h]
theorem infoKeyZ : (Tryz.prog.info? 52).map (fun i => (i.zero, i.size, i.bytes)) = some (some (.agg (kyA kyZ)), 32, 32) := by kernel_rfl
theorem info_parts4 {i : Option TypeInfo} {z : Value} {s b : Nat} (h : i.map (fun i => (i.zero, i.size, i.bytes)) = some (some z, s, b)) : ∃ i0, i = some i0 ∧ i0.zero = some z ∧ i0.size = s ∧ i0.bytes = b := by
 cases i with
 | none => cases h
 | some i0 =>
  simp only [Option.map_some, Option.some.injEq, Prod.mk.injEq] at h
  exact ⟨i0, rfl, h.1, h.2.1, h.2.2⟩
theorem len32 {l : List UInt8} (h : l.length = 32) : ∃ x0 x1 x2 x3 x4 x5 x6 x7 x8 x9 x10 x11 x12 x13 x14 x15 x16 x17 x18 x19 x20 x21 x22 x23 x24 x25 x26 x27 x28 x29 x30 x31, l = [x0, x1, x2, x3, x4, x5, x6, x7, x8, x9, x10, x11, x12, x13, x14, x15, x16, x17, x18, x19, x20, x21, x22, x23, x24, x25, x26, x27, x28, x29, x30, x31] := by
 match l, h with
 | [x0, x1, x2, x3, x4, x5, x6, x7, x8, x9, x10, x11, x12, x13, x14, x15, x16, x17, x18, x19, x20, x21, x22, x23, x24, x25, x26, x27, x28, x29, x30, x31], _ => exact ⟨x0, x1, x2, x3, x4, x5, x6, x7, x8, x9, x10, x11, x12, x13, x14, x15, x16, x17, x18, x19, x20, x21, x22, x23, x24, x25, x26, x27, x28, x29, x30, x31, rfl⟩
theorem ky_fill (x : Ky) : Instr.fill (fun i => some (i * 32, 32)) ((Array.range (1 * 32)).map ((Value.agg (kyA kyZ)).cells[· % (Value.agg (kyA kyZ)).cells.size]!)) [(0, .agg (kyA x))] = some (kyA x) := by
 obtain ⟨k, hk⟩ := x
 obtain ⟨x0, x1, x2, x3, x4, x5, x6, x7, x8, x9, x10, x11, x12, x13, x14, x15, x16, x17, x18, x19, x20, x21, x22, x23, x24, x25, x26, x27, x28, x29, x30, x31, rfl⟩ := len32 hk
 kernel_rfl
theorem wpList_slice_ky {ops : Array Oper} {rest : List Oper} {op : Oper} {ac : Act} {w : World} {Q : Exit → Act → World → Prop} (hgd : op.guard = none) (a : Operand) (ho : op.op = .buildSlice 22 1 #[(0, a)])
  (x : Ky) (ha : ac.eval a = .agg (kyA x)) (h : wpList Tryz.prog ops Q rest (ac.put op.dst (.slice (some ⟨w.heap.size, 0, none⟩) 1 1)) (w.alloc (.cells (kyA x) 52))) : wpList Tryz.prog ops Q (op :: rest) ac w :=
 wpList_plain hgd fun _ hK => by
  obtain ⟨i0, hi, hz0, hz1, hz2⟩ := info_parts4 infoKeyZ
  have hf := ky_fill x
  have hr : (Instr.buildSlice 22 1 #[(0, .agg (kyA x))]).run Tryz.prog w = .ok (.slice (some ⟨w.heap.size, 0, none⟩) 1 1) (w.alloc (.cells (kyA x) 52)) := by
   generalize kyA x = X at *
   generalize kyA kyZ = Z at *
   simp only [Instr.buildSlice, run_underlying Tryz.underlying22, Sem.run_bind, Result.andThen_ok, sizeOf, typeInfo, zeroValue, hi, hz0, hz1, Sem.run_pure, run_program]
   simp [hz0, hz1, hi, hf, newRow, sizeOf, typeInfo, zeroValue]
  unfold Oper.wp execOp
  simp only [ho, List.map_toArray, List.map_cons, List.map_nil, ha, Sem.run_bind, hr, Result.andThen_ok, Sem.run_pure]
  exact hK _ _ h
theorem row_src {w : World} {g k : Nat} {X : Array Value} {T e t : TypeId} (hk : Tryz.prog.underlying t = some (.slice e)) (hX : X.size = k) (h1 : X.all (·.oneCell') = true) (h : w.heap[g]? = some (.cells X T)) : Src Tryz.prog k t (.slice (some ⟨g, 0, none⟩) 1 1) 1 X.toList w := by
 have hv : Vw w (some ⟨g, 0, none⟩) 1 1 k X.toList := by
  refine ⟨by simp [hX], Nat.le_refl _, by decide, (fun h => by cases h), fun y hy j u hu => ?_⟩
  cases hy
  have ha : (Addr.add ⟨g, 0, none⟩ j) = ⟨g, j, none⟩ := by unfold Addr.add; split <;> simp_all
  rw [ha, cell_of_row _ _ _ _ _ _ h]
  simpa using hu
 refine hv.src (P := Tryz.prog) (t := t) hk (fun u hu => ?_)
 rw [Array.all_eq_true_iff_forall_mem] at h1
 exact h1 u (by simpa using hu)
/-- In the middle of metalog's reader.root. -/
structure RMid (w : World) (br R1 R2 BX : Nat) (F : Option Nat) (l : List UInt8) (p : Int) (ks : List Ky) (k : Int) (a : Option Addr) (c : Nat) (wk : World) : Prop where
 rd : Rd wk br F l 0
 row : wk.heap[R1]? = some (.cells #[.pointer (some ⟨br, 0, none⟩)] 139)
 res : wk.heap[R2]? = some (.cells (rootA 0 none 0 0 0) 26)
 var : wk.heap[BX]? = some (.cells (rootA p a ks.length c k) 26)
 own : wk.ownsRow 0 52 32 (.slice a ks.length c) ks.length (ks.flatMap kyV)
 fr : ∀ g, blk a = some g → BX < g
 upd : Upd (fun k => k = br) w wk
 n1 : br < w.heap.size
 n2 : w.heap.size ≤ R1
 n3 : R1 < R2
 n4 : R2 < BX
 n5 : ∀ g, F = some g → g < w.heap.size
section
variable {w : World} {br R1 R2 BX : Nat} {F : Option Nat} {l l' : List UInt8} {p : Int} {ks : List Ky} {k : Int} {a : Option Addr} {c : Nat} {wk w' : World}
theorem RMid.read (h : RMid w br R1 R2 BX F l p ks k a c wk) (hR : Rd w' br F l' 0) (hU : Upd (fun k => k = br) wk w') : RMid w br R1 R2 BX F l' p ks k a c w' := by
 have h1 := h.n1; have h2 := h.n2; have h3 := h.n3; have h4 := h.n4
 exact ⟨hR, (hU.block R1 (lt_of_heap h.row) (by omega)).trans h.row, (hU.block R2 (lt_of_heap h.res) (by omega)).trans h.res, (hU.block BX (lt_of_heap h.var) (by omega)).trans h.var,
  ownsRow_upd h.own hU (fun q hq e => by rw [own_blk] at hq; have := h.fr q hq; omega), h.fr, h.upd.trans hU, h1, h2, h3, h4, h.n5⟩
theorem RMid.same (h : RMid w br R1 R2 BX F l p ks k a c wk) (hU : Upd (fun _ => False) wk w') : RMid w br R1 R2 BX F l p ks k a c w' :=
 h.read (h.rd.upd hU (fun h => h) (fun _ _ h => h)) (hU.mono (fun _ _ h => h.elim))
theorem RMid.q0 (h : RMid w br R1 R2 BX F l p ks k a c wk) : wk.cell? ⟨R1, 0, none⟩ = some (.pointer (some ⟨br, 0, none⟩)) := by rw [cell_of_row _ _ _ _ _ _ h.row]; rfl
theorem RMid.q1 (h : RMid w br R1 R2 BX F l p ks k a c wk) : wk.cell? ⟨BX, 1, none⟩ = some (.slice a ks.length c) := by rw [cell_of_row _ _ _ _ _ _ h.var]; rfl
theorem RMid.lt (h : RMid w br R1 R2 BX F l p ks k a c wk) : BX < wk.heap.size := lt_of_heap h.var
theorem RMid.add (h : RMid w br R1 R2 BX F l p ks k a c wk) (x : Ky) {w8 : World} {a8 : Option Addr} {c8 : Nat} (hown : w8.ownsRow 0 52 32 (.slice a8 (ks.length + 1) c8) (ks.length + 1) (ks.flatMap kyV ++ kyV x))
  (hg : (wk.alloc (.cells (kyA x) 52)).grownBy w8 (blk a)) (hat : blk a8 = blk a ∨ blk a8 = some (wk.alloc (.cells (kyA x) 52)).heap.size) :
  RMid w br R1 R2 BX F l p (ks ++ [x]) k a8 c8 (w8.setCell ⟨BX, 1, none⟩ (.slice a8 (ks.length + 1) c8)) ∧ Upd (fun q => q = BX ∨ blk a = some q) wk (w8.setCell ⟨BX, 1, none⟩ (.slice a8 (ks.length + 1) c8)) ∧
   (∀ g, blk a8 = some g → blk a = some g ∨ wk.heap.size ≤ g) ∧ w8.cell? ⟨BX, 1, none⟩ = some (.slice a ks.length c) ∧ w8.frozen? ⟨BX, 1, none⟩ = false ∧ w8.cell? ⟨R1, 0, none⟩ = some (.pointer (some ⟨br, 0, none⟩)) := by
 have h1 := h.n1; have h2 := h.n2; have h3 := h.n3; have h4 := h.n4
 have hlt := h.lt
 have hUa := Upd.alloc (fun _ => False) wk (.cells (kyA x) 52)
 have hUg := Upd.grown (S := fun k => blk a = some k) hg (fun k hk => hk)
 have hz := hUa.size
 have hU8 : Upd (fun q => blk a = some q) wk w8 := (hUa.mono (fun _ _ e => e.elim)).next hUg (fun i hi e => e)
 have hkeep : ∀ q, q ≤ BX → q < wk.heap.size → w8.heap[q]? = wk.heap[q]? := fun q hq hq2 => hU8.block q hq2 (fun e => by have := h.fr q e; omega)
 have hvar8 := (hkeep BX (Nat.le_refl _) hlt).trans h.var
 have hrow8 := (hkeep R1 (by omega) (lt_of_heap h.row)).trans h.row
 have hres8 := (hkeep R2 (by omega) (lt_of_heap h.res)).trans h.res
 have hst := Upd.setCell (S := fun q => q = BX) w8 (p := ⟨BX, 1, none⟩) rfl (.slice a8 (ks.length + 1) c8)
 have hf8 : ∀ g, blk a8 = some g → blk a = some g ∨ wk.heap.size ≤ g := fun g hg' => by
  rcases hat with e | e
  ·exact .inl (e.symm.trans hg')
  ·rw [e] at hg'; cases hg'; exact .inr hz
 have hfx : ∀ g, blk a8 = some g → BX < g := fun g hg' => by
  rcases hf8 g hg' with e | e
  ·exact h.fr g e
  ·omega
 have hUall : Upd (fun q => q = BX ∨ blk a = some q) wk (w8.setCell ⟨BX, 1, none⟩ (.slice a8 (ks.length + 1) c8)) :=
  (hU8.mono (fun _ _ e => .inr e)).trans (hst.mono (fun _ _ e => .inl e))
 have hll : (ks ++ [x]).length = ks.length + 1 := by simp
 refine ⟨⟨?_, ?_, ?_, ?_, ?_, hfx, ?_, h1, h2, h3, h4, h.n5⟩, hUall, hf8, ?_, free_row hvar8, ?_⟩
 ·refine h.rd.upd hUall (fun e => ?_) (fun g hg' e => ?_)
  ·rcases e with e | e
   ·omega
   ·have := h.fr _ e; omega
  ·have := h.n5 g hg'
   rcases e with e | e
   ·omega
   ·have := h.fr _ e; omega
 ·exact (hst.block R1 (lt_of_heap hrow8) (by omega)).trans hrow8
 ·exact (hst.block R2 (lt_of_heap hres8) (by omega)).trans hres8
 ·rw [setCell_heap 1 (.slice a8 (ks.length + 1) c8) hvar8, hll]
  unfold rootA
  simp
 ·have := ownsRow_setCell_ne hown (a := ⟨BX, 1, none⟩) (by rw [own_blk]; intro e; have := hfx _ e; simp at this) (.slice a8 (ks.length + 1) c8)
  rw [hll]
  simpa using this
 ·refine h.upd.next hUall (fun i hi e => ?_)
  rcases e with e | e
  ·omega
  ·have := h.fr _ e; omega
 ·rw [cell_of_row _ _ _ _ _ _ hvar8]; rfl
 ·rw [cell_of_row _ _ _ _ _ _ hrow8]; rfl
theorem RMid.setK (h : RMid w br R1 R2 BX F l p ks k a c wk) (v : Int) : RMid w br R1 R2 BX F l p ks v a c (wk.setCell ⟨BX, 4, none⟩ (.int .i64 v)) := by
 have h1 := h.n1; have h2 := h.n2; have h3 := h.n3; have h4 := h.n4
 have hU := Upd.setCell (S := fun q => q = BX) wk (p := ⟨BX, 4, none⟩) rfl (.int .i64 v)
 refine ⟨h.rd.upd hU (fun e => by omega) (fun g hg' e => by have := h.n5 g hg'; omega), (hU.block R1 (lt_of_heap h.row) (by omega)).trans h.row, (hU.block R2 (lt_of_heap h.res) (by omega)).trans h.res, ?_,
  ownsRow_upd h.own hU (fun q hq e => by rw [own_blk] at hq; have := h.fr q hq; omega), h.fr, h.upd.next hU (fun i hi e => by omega), h1, h2, h3, h4, h.n5⟩
 rw [setCell_heap 4 (.int .i64 v) h.var]
 unfold rootA
 simp
end
set_option maxHeartbeats 8000000 in
theorem root1_any {w : World} {br R1 R2 BX : Nat} {F : Option Nat} {r : List UInt8} {p : Int} {ks : List Ky} {k : Int} {a : Option Addr} {c : Nat} {wk : World} (x : Ky) (h : RMid w br R1 R2 BX F (x.b ++ r) p ks k a c wk) (hs : (x.b ++ r).length ≤ 100000000) (hn : ks.length ≤ 100000) :
  Calls Tryz.prog 131 #[.pointer (some ⟨BX, 0, none⟩), .pointer (some ⟨R1, 0, none⟩)] wk fun e w' => e = .returned (.tuple #[]) ∧ ∃ a' c', RMid w br R1 R2 BX F r p (ks ++ [x]) k a' c' w' ∧
   Upd (fun q => q = br ∨ q = BX ∨ blk a = some q) wk w' ∧ (∀ g, blk a' = some g → blk a = some g ∨ wk.heap.size ≤ g) := by
 have HI := Lib.hid h
 have HQ := Lib.hid (And.intro h.q1 h.q0)
 have hkey := mrkey_any br F ⟨x.b ++ r, 0⟩ wk.drew (h.rd.upd (Upd.drew (fun _ => False) wk) (fun h => h) (fun _ _ h => h)) (fun g hg => by have := h.n5 g hg; have := h.upd.size; show g < wk.heap.size; omega) hs
 rw [keyS_app] at hkey
 dsimp only at hkey
 clear h
 go_enter Tryz.func131, Tryz.ntmps131
 go_upto_region 0 with (fail)
 refine wp_region_plan_last [([0, 1, 2], 3), ([], 4), ([], 5), ([6], 7)] [] (fun w' => w'.cell? ⟨BX, 1, none⟩ = some (.slice a ks.length c) ∧ w'.cell? ⟨R1, 0, none⟩ = some (.pointer (some ⟨br, 0, none⟩))) (by kernel_rfl) (by kernel_rfl) HQ.out ?_
 iterate 3
  refine plan_take (v := ?_) rfl rfl (fun w' hS => ?_) ?_
  rotate_left
  ·skip
   go_simp; try with_reducible rfl
  simp only [putL]
 clear HQ
 refine plan_act rfl (fun K6 hK6 => ?_)
 go_wp2_with fail
 refine hkey.mono ?_
 rintro e u7 ⟨rfl, hR, hU⟩
 have HN7 := Lib.hid ((HI.out.same (Upd.drew _ _)).read hR hU)
 have HU7 := Lib.hid ((Upd.drew (fun k => k = br) wk).trans hU)
 have HQ := Lib.hid (And.intro HN7.out.q1 HN7.out.q0)
 clear hR hU hkey
 have hkA : (bvs x.b).toArray = kyA x := rfl
 rw [hkA]
 go_wp2_with fail
 refine hK6.out _ _ (.inr HQ.out) ?_
 clear HQ
 try simp only [putL]
 refine plan_act rfl (fun K11 hK11 => ?_)
 refine wpList_slice_ky rfl (.tmp 5) rfl x rfl ?_
 have hUb := Upd.alloc (fun _ => False) u7 (.cells (kyA x) 52)
 have hsrc : Src Tryz.prog 32 22 (.slice (some ⟨u7.heap.size, 0, none⟩) 1 1) 1 (kyV x) (u7.alloc (.cells (kyA x) 52)) := row_src Tryz.underlying22 (kyA_size x) (key_one x.b) (heap_alloc_new u7 (.cells (kyA x) 52))
 have hownx := ownsRow_upd HN7.out.own hUb (fun _ _ h => h)
 have HS7 := HN7.out.same hUb
 have hq7 := And.intro HS7.q1 HS7.q0
 go_wp2_with fail
 refine hK11.out _ _ (.inr hq7) ?_
 refine plan_act rfl (fun K12 hK12 => ?_)
 obtain ⟨i0, hi, hz0, hz1, hz2⟩ := info_parts4 infoKeyZ
 try simp only [putL]
 refine wpList_app _ rfl (.tmp 3) (.tmp 6) 22 22 rfl 52 i0 (.agg (kyA kyZ)) 32 32 Tryz.underlying22 hi hz0 hz1 hz2 (kyA_size kyZ) a ks.length c (ks.flatMap kyV) rfl hownx (.slice (some ⟨u7.heap.size, 0, none⟩) 1 1) 1 (kyV x) rfl hsrc ?_ ?_ ?_
 ·unfold maxLen; omega
 ·omega
 clear hi hz0 hz1 hz2
 intro a8 c8 w8 hown8 hg8 hat8 hnil8
 obtain ⟨hcb, hUp, hsl, hq8, hf8, hq80⟩ := HN7.out.add x hown8 hg8 hat8
 have hz7 := HU7.out.size
 have HM8 := Lib.hid (And.intro hcb (And.intro ((HU7.out.mono (fun _ _ e => Or.inl e)).trans (hUp.mono (fun _ _ e => Or.inr e))) (fun g (hg : blk a8 = some g) => (hsl g hg).imp id (fun e => Nat.le_trans hz7 e))))
 clear hown8 hg8 hat8 hnil8 hcb hUp hownx hsrc hUb hq7 HS7 hsl hz7
 have HQ8 := Lib.hid (And.intro hq8 hq80)
 clear hq80
 go_wp2_with fail
 refine hK12.out _ _ (.inr HQ8.out) ?_
 try simp only [putL]
 iterate 1
  refine plan_take (v := ?_) rfl rfl (fun w' hS => ?_) ?_
  rotate_left
  ·skip
   go_simp; try with_reducible rfl
  simp only [putL]
 refine plan_act rfl (fun K14 hK14 => ?_)
 go_wp2_with fail
 refine hK14.out _ _ (.inl rfl) ?_
 refine plan_end ?_
 go_wp2_with fail
 go_end0
 exact ⟨rfl, a8, c8, HM8.out⟩
theorem rint_i4 (br : Nat) (F : Option Nat) (v : Int) (r : List UInt8) (w : World) (hr : Rd w br F (i4 v ++ r) 0) (hl : (i4 v ++ r).length ≤ 100000000) (h0 : -1 ≤ v) (h1 : v < 100000) :
  Calls Tryz.prog 98 #[.pointer (some ⟨br, 0, none⟩)] w fun e w' => e = .returned (.int .i64 v) ∧ Rd w' br F r 0 ∧ Upd (fun k => k = br) w w' := by
 have h := rint_any br F ⟨i4 v ++ r, 0⟩ w hr hl
 rw [takeS_i4, intV_i4 v r h0 (by omega)] at h
 exact h
theorem some_zero (br : Nat) (F : Option Nat) (r : List UInt8) (f : Value) (w : World) (hr : Rd w br F (i4 0 ++ r) 0) (hl : (i4 0 ++ r).length ≤ 100000000) :
  Calls Tryz.prog 130 #[.agg #[.pointer (some ⟨br, 0, none⟩)], f] w fun e w' => e = .returned (.tuple #[]) ∧ Rd w' br F r 0 ∧ Upd (fun k => k = br) w w' := by
 have hU0 := Upd.alloc (fun _ => False) w (.cells #[.pointer (some ⟨br, 0, none⟩)] 139)
 have hri := rint_i4 br F 0 r _ (hr.upd hU0 (fun h => h) (fun _ _ h => h)) hl (by omega) (by omega)
 have HU0 := Lib.hid hU0
 clear hr hU0
 go_enter Tryz.func130, Tryz.ntmps130
 go_wp2_with fail
 refine hri.mono ?_
 rintro e w1 ⟨rfl, hR, hU⟩
 have HI := Lib.hid (And.intro hR ((HU0.out.mono (fun _ _ h => h.elim)).trans hU))
 clear hR hU hri
 go_wp2_with fail
 go_loopw [4] (fun i wr => i = .int .i64 0 ∧ wr = w1) (fun _ _ => 0)
 case atStart => exact ⟨rfl, rfl⟩
 case round =>
  obtain ⟨rfl, rfl⟩ := hrel
  go_wp2_with fail
  go_end0
  exact ⟨rfl, HI.out⟩
end Go.Proofs.YtccejkikphpnfaaGreatDoor
