
/- A key that is read by metalog's reader. -/
import Derived.Test.YtccejkikphpnfaaGreatDoorMet2
import Derived.Test.YtccejkikphpnfaaGreatDoorItems
namespace Go.Proofs.YtccejkikphpnfaaGreatDoor
set_option linter.unusedSimpArgs false
set_option linter.unusedVariables false
set_option maxRecDepth 100000
open Go.ChangeShapes Go.WideShapes Go.ChangeAt Go.RowKit

def byteS (s : RS) : UInt8 := UInt8.ofNat (leN (takeS 1 s).1)
def keyN : Nat → RS → List UInt8 × RS
  | 0, s => ([], s)
  | n + 1, s => ((keyN n s).1 ++ [byteS (keyN n s).2], (takeS 1 (keyN n s).2).2)
theorem keyN_len (n : Nat) (s : RS) : (keyN n s).1.length = n := by
  induction n with
  | zero => rfl
  | succ n ih => simp [keyN, ih]
theorem keyN_le (n : Nat) (s : RS) : (keyN n s).2.l.length ≤ s.l.length := by
  induction n with
  | zero => exact Nat.le_refl _
  | succ n ih => exact Nat.le_trans (takeS_len 1 _) ih
def keyS (s : RS) : List UInt8 × RS := keyN 32 s
theorem keyS_len (s : RS) : (keyS s).1.length = 32 := keyN_len 32 s
theorem byte_wrap (n : Nat) : IntKind.u8.wrap (n : Int) = ((UInt8.ofNat n).toNat : Int) := by
  rw [UInt8.toNat_ofNat']
  show (n : Int) % 256 = _
  omega
def keyRow (k : List UInt8) (j : Nat) : Array Value := (bvs (k ++ List.replicate (32 - j) 0)).toArray
theorem keyRow_at (k : List UInt8) (j : Nat) (hk : k.length = j) (hj : j < 32) : (keyRow k j)[j]? = some (.int .u8 0) := by
  unfold keyRow
  rw [List.getElem?_toArray, bvs_append, List.getElem?_append_right (by rw [bvs_length, hk]; exact Nat.le_refl _), bvs_length, hk, Nat.sub_self, show 32 - j = (32 - (j + 1)) + 1 from by omega, List.replicate_succ]
  rfl
theorem keyRow_set (k : List UInt8) (j : Nat) (hk : k.length = j) (hj : j < 32) (x : UInt8) : (keyRow k j).setIfInBounds j (bv x) = keyRow (k ++ [x]) (j + 1) := by
  unfold keyRow
  rw [List.setIfInBounds_toArray, bvs_append, bvs_append, bvs_append, show 32 - j = (32 - (j + 1)) + 1 from by omega, List.replicate_succ]
  rw [List.set_append_right _ _ (by rw [bvs_length, hk]; exact Nat.le_refl _), bvs_length, hk, Nat.sub_self]
  simp [bvs]

set_option maxHeartbeats 4000000 in
theorem mrkey_any (br : Nat) (F : Option Nat) (s : RS) (w : World) (hr : Rd w br F s.l s.e) (hF : ∀ g, F = some g → g < w.heap.size) (hl : s.l.length ≤ 100000000) :
    Calls Tryz.prog 132 #[.agg #[.pointer (some ⟨br, 0, none⟩)]] w fun e w' => e = .returned (.agg (bvs (keyS s).1).toArray) ∧ Rd w' br F (keyS s).2.l (keyS s).2.e ∧ Upd (fun k => k = br) w w' := by
  have hbr : br < w.heap.size := by
    obtain ⟨a, c, hh, _⟩ := hr.ex
    exact lt_of_heap hh
  go_enter Tryz.func132, Tryz.ntmps132
  go_upto_region 2 with (fail)
  have hU0 : Upd (fun _ => False) w (((w.alloc (.cells #[.pointer (some ⟨br, 0, none⟩)] 139)).alloc (.cells #[.int .u8 0, .int .u8 0, .int .u8 0, .int .u8 0, .int .u8 0, .int .u8 0, .int .u8 0, .int .u8 0, .int .u8 0, .int .u8 0, .int .u8 0, .int .u8 0, .int .u8 0, .int .u8 0, .int .u8 0, .int .u8 0, .int .u8 0, .int .u8 0, .int .u8 0, .int .u8 0, .int .u8 0, .int .u8 0, .int .u8 0, .int .u8 0, .int .u8 0, .int .u8 0, .int .u8 0, .int .u8 0, .int .u8 0, .int .u8 0, .int .u8 0, .int .u8 0] 52)).alloc (.cells #[.int .u8 0, .int .u8 0, .int .u8 0, .int .u8 0, .int .u8 0, .int .u8 0, .int .u8 0, .int .u8 0, .int .u8 0, .int .u8 0, .int .u8 0, .int .u8 0, .int .u8 0, .int .u8 0, .int .u8 0, .int .u8 0, .int .u8 0, .int .u8 0, .int .u8 0, .int .u8 0, .int .u8 0, .int .u8 0, .int .u8 0, .int .u8 0, .int .u8 0, .int .u8 0, .int .u8 0, .int .u8 0, .int .u8 0, .int .u8 0, .int .u8 0, .int .u8 0] 52)) := ((Upd.alloc _ _ _).trans (Upd.alloc _ _ _)).trans (Upd.alloc _ _ _)
  have h0 : (((w.alloc (.cells #[.pointer (some ⟨br, 0, none⟩)] 139)).alloc (.cells #[.int .u8 0, .int .u8 0, .int .u8 0, .int .u8 0, .int .u8 0, .int .u8 0, .int .u8 0, .int .u8 0, .int .u8 0, .int .u8 0, .int .u8 0, .int .u8 0, .int .u8 0, .int .u8 0, .int .u8 0, .int .u8 0, .int .u8 0, .int .u8 0, .int .u8 0, .int .u8 0, .int .u8 0, .int .u8 0, .int .u8 0, .int .u8 0, .int .u8 0, .int .u8 0, .int .u8 0, .int .u8 0, .int .u8 0, .int .u8 0, .int .u8 0, .int .u8 0] 52)).alloc (.cells #[.int .u8 0, .int .u8 0, .int .u8 0, .int .u8 0, .int .u8 0, .int .u8 0, .int .u8 0, .int .u8 0, .int .u8 0, .int .u8 0, .int .u8 0, .int .u8 0, .int .u8 0, .int .u8 0, .int .u8 0, .int .u8 0, .int .u8 0, .int .u8 0, .int .u8 0, .int .u8 0, .int .u8 0, .int .u8 0, .int .u8 0, .int .u8 0, .int .u8 0, .int .u8 0, .int .u8 0, .int .u8 0, .int .u8 0, .int .u8 0, .int .u8 0, .int .u8 0] 52)).heap[w.heap.size]? = some (.cells #[.pointer (some ⟨br, 0, none⟩)] 139) := by
    rw [Below.heap_alloc _ _ _ (by simp <;> omega), Below.heap_alloc _ _ _ (by simp)]; exact heap_alloc_new _ _
  have h1 : (((w.alloc (.cells #[.pointer (some ⟨br, 0, none⟩)] 139)).alloc (.cells #[.int .u8 0, .int .u8 0, .int .u8 0, .int .u8 0, .int .u8 0, .int .u8 0, .int .u8 0, .int .u8 0, .int .u8 0, .int .u8 0, .int .u8 0, .int .u8 0, .int .u8 0, .int .u8 0, .int .u8 0, .int .u8 0, .int .u8 0, .int .u8 0, .int .u8 0, .int .u8 0, .int .u8 0, .int .u8 0, .int .u8 0, .int .u8 0, .int .u8 0, .int .u8 0, .int .u8 0, .int .u8 0, .int .u8 0, .int .u8 0, .int .u8 0, .int .u8 0] 52)).alloc (.cells #[.int .u8 0, .int .u8 0, .int .u8 0, .int .u8 0, .int .u8 0, .int .u8 0, .int .u8 0, .int .u8 0, .int .u8 0, .int .u8 0, .int .u8 0, .int .u8 0, .int .u8 0, .int .u8 0, .int .u8 0, .int .u8 0, .int .u8 0, .int .u8 0, .int .u8 0, .int .u8 0, .int .u8 0, .int .u8 0, .int .u8 0, .int .u8 0, .int .u8 0, .int .u8 0, .int .u8 0, .int .u8 0, .int .u8 0, .int .u8 0, .int .u8 0, .int .u8 0] 52)).heap[w.heap.size + 1]? = some (.cells #[.int .u8 0, .int .u8 0, .int .u8 0, .int .u8 0, .int .u8 0, .int .u8 0, .int .u8 0, .int .u8 0, .int .u8 0, .int .u8 0, .int .u8 0, .int .u8 0, .int .u8 0, .int .u8 0, .int .u8 0, .int .u8 0, .int .u8 0, .int .u8 0, .int .u8 0, .int .u8 0, .int .u8 0, .int .u8 0, .int .u8 0, .int .u8 0, .int .u8 0, .int .u8 0, .int .u8 0, .int .u8 0, .int .u8 0, .int .u8 0, .int .u8 0, .int .u8 0] 52) := by
    rw [Below.heap_alloc _ _ _ (by simp)]
    have := heap_alloc_new (w.alloc (.cells #[.pointer (some ⟨br, 0, none⟩)] 139)) (.cells #[.int .u8 0, .int .u8 0, .int .u8 0, .int .u8 0, .int .u8 0, .int .u8 0, .int .u8 0, .int .u8 0, .int .u8 0, .int .u8 0, .int .u8 0, .int .u8 0, .int .u8 0, .int .u8 0, .int .u8 0, .int .u8 0, .int .u8 0, .int .u8 0, .int .u8 0, .int .u8 0, .int .u8 0, .int .u8 0, .int .u8 0, .int .u8 0, .int .u8 0, .int .u8 0, .int .u8 0, .int .u8 0, .int .u8 0, .int .u8 0, .int .u8 0, .int .u8 0] 52)
    simpa using this
  have h2 : (((w.alloc (.cells #[.pointer (some ⟨br, 0, none⟩)] 139)).alloc (.cells #[.int .u8 0, .int .u8 0, .int .u8 0, .int .u8 0, .int .u8 0, .int .u8 0, .int .u8 0, .int .u8 0, .int .u8 0, .int .u8 0, .int .u8 0, .int .u8 0, .int .u8 0, .int .u8 0, .int .u8 0, .int .u8 0, .int .u8 0, .int .u8 0, .int .u8 0, .int .u8 0, .int .u8 0, .int .u8 0, .int .u8 0, .int .u8 0, .int .u8 0, .int .u8 0, .int .u8 0, .int .u8 0, .int .u8 0, .int .u8 0, .int .u8 0, .int .u8 0] 52)).alloc (.cells #[.int .u8 0, .int .u8 0, .int .u8 0, .int .u8 0, .int .u8 0, .int .u8 0, .int .u8 0, .int .u8 0, .int .u8 0, .int .u8 0, .int .u8 0, .int .u8 0, .int .u8 0, .int .u8 0, .int .u8 0, .int .u8 0, .int .u8 0, .int .u8 0, .int .u8 0, .int .u8 0, .int .u8 0, .int .u8 0, .int .u8 0, .int .u8 0, .int .u8 0, .int .u8 0, .int .u8 0, .int .u8 0, .int .u8 0, .int .u8 0, .int .u8 0, .int .u8 0] 52)).heap[w.heap.size + 1 + 1]? = some (.cells (keyRow [] 0) 52) := by
    have := heap_alloc_new ((w.alloc (.cells #[.pointer (some ⟨br, 0, none⟩)] 139)).alloc (.cells #[.int .u8 0, .int .u8 0, .int .u8 0, .int .u8 0, .int .u8 0, .int .u8 0, .int .u8 0, .int .u8 0, .int .u8 0, .int .u8 0, .int .u8 0, .int .u8 0, .int .u8 0, .int .u8 0, .int .u8 0, .int .u8 0, .int .u8 0, .int .u8 0, .int .u8 0, .int .u8 0, .int .u8 0, .int .u8 0, .int .u8 0, .int .u8 0, .int .u8 0, .int .u8 0, .int .u8 0, .int .u8 0, .int .u8 0, .int .u8 0, .int .u8 0, .int .u8 0] 52)) (.cells #[.int .u8 0, .int .u8 0, .int .u8 0, .int .u8 0, .int .u8 0, .int .u8 0, .int .u8 0, .int .u8 0, .int .u8 0, .int .u8 0, .int .u8 0, .int .u8 0, .int .u8 0, .int .u8 0, .int .u8 0, .int .u8 0, .int .u8 0, .int .u8 0, .int .u8 0, .int .u8 0, .int .u8 0, .int .u8 0, .int .u8 0, .int .u8 0, .int .u8 0, .int .u8 0, .int .u8 0, .int .u8 0, .int .u8 0, .int .u8 0, .int .u8 0, .int .u8 0] 52)
    have e : keyRow [] 0 = #[.int .u8 0, .int .u8 0, .int .u8 0, .int .u8 0, .int .u8 0, .int .u8 0, .int .u8 0, .int .u8 0, .int .u8 0, .int .u8 0, .int .u8 0, .int .u8 0, .int .u8 0, .int .u8 0, .int .u8 0, .int .u8 0, .int .u8 0, .int .u8 0, .int .u8 0, .int .u8 0, .int .u8 0, .int .u8 0, .int .u8 0, .int .u8 0, .int .u8 0, .int .u8 0, .int .u8 0, .int .u8 0, .int .u8 0, .int .u8 0, .int .u8 0, .int .u8 0] := rfl
    rw [e]
    simpa using this
  generalize ((w.alloc (.cells #[.pointer (some ⟨br, 0, none⟩)] 139)).alloc (.cells #[.int .u8 0, .int .u8 0, .int .u8 0, .int .u8 0, .int .u8 0, .int .u8 0, .int .u8 0, .int .u8 0, .int .u8 0, .int .u8 0, .int .u8 0, .int .u8 0, .int .u8 0, .int .u8 0, .int .u8 0, .int .u8 0, .int .u8 0, .int .u8 0, .int .u8 0, .int .u8 0, .int .u8 0, .int .u8 0, .int .u8 0, .int .u8 0, .int .u8 0, .int .u8 0, .int .u8 0, .int .u8 0, .int .u8 0, .int .u8 0, .int .u8 0, .int .u8 0] 52)).alloc (.cells #[.int .u8 0, .int .u8 0, .int .u8 0, .int .u8 0, .int .u8 0, .int .u8 0, .int .u8 0, .int .u8 0, .int .u8 0, .int .u8 0, .int .u8 0, .int .u8 0, .int .u8 0, .int .u8 0, .int .u8 0, .int .u8 0, .int .u8 0, .int .u8 0, .int .u8 0, .int .u8 0, .int .u8 0, .int .u8 0, .int .u8 0, .int .u8 0, .int .u8 0, .int .u8 0, .int .u8 0, .int .u8 0, .int .u8 0, .int .u8 0, .int .u8 0, .int .u8 0] 52) = y0 at *
  obtain ⟨B0, hB0⟩ : ∃ B, B = w.heap.size := ⟨_, rfl⟩
  obtain ⟨B1, hB1⟩ : ∃ B, B = w.heap.size + 1 := ⟨_, rfl⟩
  obtain ⟨B2, hB2⟩ : ∃ B, B = w.heap.size + 1 + 1 := ⟨_, rfl⟩
  rw [← hB2] at h2 ⊢
  rw [← hB1] at h1 ⊢
  rw [← hB0] at h0 ⊢
  have HB := Lib.hid (And.intro hB0 (And.intro hB1 (And.intro hB2 (And.intro hbr hF))))
  have HI := Lib.hid (And.intro (hr.upd hU0 (fun h => h) (fun _ _ h => h)) (And.intro h2 (And.intro (And.intro h1 h0) hU0)))
  clear hB0 hB1 hB2 hbr hF hr h0 h1 h2 hU0
  go_wp2_with fail
  go_loopw [5] (fun i wx => ∃ j : Nat, j ≤ 32 ∧ i = .int .i64 (j : Int) ∧ Hid (Rd wx br F (keyN j s).2.l (keyN j s).2.e ∧ wx.heap[B2]? = some (.cells (keyRow (keyN j s).1 j) 52) ∧ (wx.heap[B1]? = some (.cells #[.int .u8 0, .int .u8 0, .int .u8 0, .int .u8 0, .int .u8 0, .int .u8 0, .int .u8 0, .int .u8 0, .int .u8 0, .int .u8 0, .int .u8 0, .int .u8 0, .int .u8 0, .int .u8 0, .int .u8 0, .int .u8 0, .int .u8 0, .int .u8 0, .int .u8 0, .int .u8 0, .int .u8 0, .int .u8 0, .int .u8 0, .int .u8 0, .int .u8 0, .int .u8 0, .int .u8 0, .int .u8 0, .int .u8 0, .int .u8 0, .int .u8 0, .int .u8 0] 52) ∧ wx.heap[B0]? = some (.cells #[.pointer (some ⟨br, 0, none⟩)] 139)) ∧ Upd (fun k => k = br) w wx)) (fun i _ => 32 - (intOf i).toNat)
  case atStart => exact ⟨0, by omega, rfl, Lib.hid ⟨HI.out.1, HI.out.2.1, HI.out.2.2.1, HI.out.2.2.2.mono (fun _ _ h => h.elim)⟩⟩
  case round =>
    clear HI
    obtain ⟨j, hj, rfl, HI⟩ := hrel
    by_cases hlt : j < 32
    · have hI : (j : Int) < 32 := by omega
      have hq : wr.cell? ⟨B0, 0, none⟩ = some (.pointer (some ⟨br, 0, none⟩)) := by
        rw [cell_of_row _ _ _ _ _ _ HI.out.2.2.1.2]; rfl
      have hsucc : keyN (j + 1) s = ((keyN j s).1 ++ [byteS (keyN j s).2], (takeS 1 (keyN j s).2).2) := rfl
      have hlen := keyN_len j s
      have hle := keyN_le j s
      have hnum := rnum_any br F (keyN j s).2 1 wr HI.out.1 (by omega)
      rw [show heldN 1 = 1 from rfl] at hnum
      have hbw := byte_wrap (leN (takeS 1 (keyN j s).2).1)
      have hbs : byteS (keyN j s).2 = UInt8.ofNat (leN (takeS 1 (keyN j s).2).1) := rfl
      rw [← hbs] at hbw
      generalize leN (takeS 1 (keyN j s).2).1 = v at *
      generalize (takeS 1 (keyN j s).2).2 = s2 at *
      generalize byteS (keyN j s).2 = x at *
      generalize (keyN j s).1 = k at *
      have HS := Lib.hid (And.intro hsucc hlen)
      clear hsucc hlen hle hbs
      go_wp2_with fail
      refine hnum.mono ?_
      unfold ReadN
      rintro e w2 ⟨rfl, hR, hU⟩
      have hn1 : ¬ B1 = br := by have := HB.out.2.1; have := HB.out.2.2.2.1; omega
      have hn2 : ¬ B2 = br := by have := HB.out.2.2.1; have := HB.out.2.2.2.1; omega
      have hrow := (hU.block B2 (lt_of_heap HI.out.2.1) hn2).trans HI.out.2.1
      have hrow1 := (hU.block B1 (lt_of_heap HI.out.2.2.1.1) hn1).trans HI.out.2.2.1.1
      have hc : w2.cell? ⟨B2, j, none⟩ = some (.int .u8 0) := by
        rw [cell_of_row _ _ _ _ _ _ hrow]; exact keyRow_at k j HS.out.2 hlt
      have hf : w2.frozen? ⟨B2, j, none⟩ = false := free_row hrow
      have hrow' := setCell_heap j (bv x) hrow
      rw [keyRow_set k j HS.out.2 hlt x] at hrow'
      have hUs := Upd.setCell (S := fun k => k = B2) w2 (p := ⟨B2, j, none⟩) rfl (bv x)
      have hR' := hR.upd hUs (fun h => hn2 h.symm) (fun g hg h => by have := HB.out.2.2.2.2 g hg; have := HB.out.2.2.1; omega)
      have hn12 : ¬ B1 = B2 := by have := HB.out.2.1; have := HB.out.2.2.1; omega
      have hrow1' := (hUs.block B1 (lt_of_heap hrow1) hn12).trans hrow1
      have hU' := (HI.out.2.2.2.trans hU).next hUs (fun i hi h => by have := HB.out.2.2.1; omega)
      have hn0 : ¬ B0 = br := by have := HB.out.1; have := HB.out.2.2.2.1; omega
      have hn02 : ¬ B0 = B2 := by have := HB.out.1; have := HB.out.2.2.1; omega
      have hrow0' := (hUs.block B0 (Nat.lt_of_lt_of_le (lt_of_heap HI.out.2.2.1.2) hU.size) hn02).trans ((hU.block B0 (lt_of_heap HI.out.2.2.1.2) hn0).trans HI.out.2.2.1.2)
      have HJ := Lib.hid (And.intro hR' (And.intro hrow' (And.intro (And.intro hrow1' hrow0') hU')))
      unfold bv at HJ
      clear hR hU hrow hrow1 hrow' hUs hR' hrow1' hU' hn1 hn2 hn12 hn0 hn02 hrow0'
      go_wp2_with fail
      go_roundw
      case rel => exact ⟨j + 1, by omega, by first | rfl | go_num, Lib.hid (by rw [HS.out.1]; exact HJ.out)⟩
      case measure => simp [intOf]; omega
    · obtain rfl : j = 32 := by omega
      have hrg : wr.rangeAt B2 0 (bvs (keyS s).1) := fun i u hu => by
        rw [cell_of_row _ _ _ _ _ _ HI.out.2.1]
        have e : keyRow (keyN 32 s).1 32 = (bvs (keyS s).1).toArray := by unfold keyRow keyS; simp
        rw [e, Nat.zero_add, List.getElem?_toArray]; exact hu
      have hkl := keyS_len s
      have hr1 := HI.out.2.2.1.1
      have hsz : (Tryz.prog.info? 52).map (·.size) = some (bvs (keyS s).1).toArray.size := by rw [infoKey]; simp [bvs, hkl]
      have hone : (bvs (keyS s).1).toArray.all (·.oneCell') = true := by simp [bvs, bv, Value.oneCell']
      have hz : (#[.int .u8 0, .int .u8 0, .int .u8 0, .int .u8 0, .int .u8 0, .int .u8 0, .int .u8 0, .int .u8 0, .int .u8 0, .int .u8 0, .int .u8 0, .int .u8 0, .int .u8 0, .int .u8 0, .int .u8 0, .int .u8 0, .int .u8 0, .int .u8 0, .int .u8 0, .int .u8 0, .int .u8 0, .int .u8 0, .int .u8 0, .int .u8 0, .int .u8 0, .int .u8 0, .int .u8 0, .int .u8 0, .int .u8 0, .int .u8 0, .int .u8 0, .int .u8 0] : Array Value).size = (bvs (keyS s).1).toArray.size := by simp [bvs, hkl]
      have hkk : keyN 32 s = keyS s := rfl
      have HX := Lib.hid (And.intro hsz (And.intro hone hz))
      clear hsz hone hz
      go_wp2_with first
        | refine wpList_load_key rfl (.tmp 3) rfl B2 0 rfl (keyS s).1 hkl hrg ?_
        | refine wpList_store_row rfl 52 (.tmp 2) (.tmp 15) rfl B1 (bvs (keyS s).1).toArray _ 52 rfl rfl hr1 HX.out.1 HX.out.2.2 HX.out.2.1 ?_
      have hUs := Upd.setRow (S := fun k => k = B1) wr rfl (bvs (keyS s).1).toArray
      have hn1 : ¬ B1 = br := by have := HB.out.2.1; have := HB.out.2.2.2.1; omega
      refine ret_row rfl B1 (bvs (keyS s).1).toArray 52 (0, 0) _ rfl (setRow_heap _ _ _ _ _ _ hr1) Tryz.underlying52 rfl HX.out.1 rfl ⟨rfl, ?_, ?_⟩
      · have := HI.out.1.upd hUs (fun h => hn1 h.symm) (fun g hg h => by have := HB.out.2.2.2.2 g hg; have := HB.out.2.1; omega)
        rw [hkk] at this
        exact this
      · exact HI.out.2.2.2.next hUs (fun i hi h => by have := HB.out.2.1; omega)
theorem keyN_app (n : Nat) (k r : List UInt8) (h : n ≤ k.length) : keyN n ⟨k ++ r, 0⟩ = (k.take n, ⟨k.drop n ++ r, 0⟩) := by
  induction n with
  | zero => simp [keyN]
  | succ n ih =>
    have hn : n < k.length := by omega
    rw [keyN, ih (by omega)]
    have e : k.drop n = [k[n]] ++ k.drop (n + 1) := List.drop_eq_getElem_cons hn
    have hb : ∀ y : UInt8, UInt8.ofNat (leN [y]) = y := fun y => by simp [leN]
    dsimp only
    unfold byteS
    rw [e, List.append_assoc, takeS_app' 1 [k[n]] _ rfl, List.take_succ_eq_append_getElem hn]
    dsimp only
    rw [hb]
theorem keyS_app (k : Ky) (r : List UInt8) : keyS ⟨k.b ++ r, 0⟩ = (k.b, ⟨r, 0⟩) := by
  unfold keyS
  rw [keyN_app 32 k.b r (by rw [k.h]; exact Nat.le_refl _), List.take_of_length_le (by rw [k.h]; exact Nat.le_refl _), List.drop_eq_nil_of_le (by rw [k.h]; exact Nat.le_refl _)]
  rfl
end Go.Proofs.YtccejkikphpnfaaGreatDoor
