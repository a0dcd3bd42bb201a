
/- The walks of the document's writer (rickref01). -/
import Derived.Test.YtccejkikphpnfaaGreatDoorOct4
namespace Go.Proofs.YtccejkikphpnfaaGreatDoor
set_option linter.unusedSimpArgs false
set_option linter.unusedVariables false
open Go.ChangeShapes Go.WideShapes Go.ChangeAt Go.RowKit

set_option maxHeartbeats 400000 in
theorem refNum_any (a : Option Addr) (c : Nat) (l : List UInt8) (x : Nat) (n : Int) (w : World) (hv : Vw w a l.length c 1 (bvs l)) (hx : x < 2 ^ 64) (hl : l.length ≤ 100000000) :
    Calls Tryz.prog 86 #[.slice a l.length c, .int .u64 x, .int .i64 n] w (MadeB w (l ++ le x (heldN n)) false) := by
  obtain ⟨i0, hi, hz0, hz1, hz2⟩ := info_parts infoU8
  have hN : max 1 (min n 8) = (heldN n : Int) := by unfold heldN; omega
  have h8 : heldN n ≤ 8 := by unfold heldN; omega
  have h1 : 1 ≤ heldN n := by unfold heldN; omega
  generalize heldN n = k at *
  have HN := Lib.hid hN; clear hN
  have hsrc := hv.src (P := Tryz.prog) (t := 33) Tryz.underlying33 (bvs_cells l)
  go_enter Tryz.func86, Tryz.ntmps86
  go_wp2_with (at_builtin; refine wpList_app _ rfl (.const (.slice none 0 0)) (.tmp 9) 33 33 rfl 5 i0 (.int .u8 0) 1 1 Tryz.underlying33 hi hz0 hz1 hz2 rfl none 0 0 [] rfl (World.ownsRow_nil _ _ _ _) (.slice a l.length c) l.length (bvs l) rfl hsrc ?_ ?_ ?_)
  · unfold maxLen; omega
  · omega
  intro a1 c1 w1 hown1 hg1 hat1 hnil1
  try simp only [Nat.zero_add, List.nil_append] at hown1
  have hU1 : Upd (fun _ => False) w w1 := Upd.grown hg1 (fun k hk => by cases hk)
  have hf1 : ∀ g, blk a1 = some g → w.heap.size ≤ g := by
    intro g hg'
    rcases hat1 with h | h
    · rw [h] at hg'; cases hg'
    · rw [h] at hg'; cases hg'; exact Nat.le_refl _
  clear hnil1 hat1 hg1 hsrc hv
  have HF := Lib.hid hf1; clear hf1
  go_wp2_with fail
  go_loopw [7, 8] (fun v i wr => ∃ j : Nat, j ≤ k ∧ i = .int .i64 j ∧ ∃ a' c' lj, Hid (lj = l ++ le x j) ∧ v = .slice a' lj.length c' ∧ wr.ownsRow 0 5 1 (.slice a' lj.length c') lj.length (bvs lj) ∧ Upd (fun _ => False) w wr ∧ Hid (∀ g, blk a' = some g → w.heap.size ≤ g) ∧ Hid (a' = none → j = 0)) (fun _ i _ => k - (intOf i).toNat)
  case atStart => exact ⟨0, Nat.zero_le _, rfl, a1, c1, l, (by show _ = _; simp [le]), rfl, hown1, hU1, HF, fun _ => rfl⟩
  case round =>
    obtain ⟨j, hj, rfl, a', c', lj, hlj, rfl, hown, hU, hG, hZ⟩ := hrel
    clear hown1 hU1 HF
    have hlen : lj.length ≤ 200000000 := by rw [hlj.out]; simp [le_length]; omega
    have hU' := hU.size
    by_cases hlt : j < k
    · have hlt' : (j : Int) < max 1 (min n 8) := by rw [HN.out]; omega
      have hmul : IntKind.i64.wrap (8 * ↑j) = 8 * ↑j := IntWalk.i64_in _ (by omega)
      have h0 : (0 : Int) ≤ 8 * ↑j := by omega
      have hz : (wr.alloc (Obj.cells #[bv (UInt8.ofNat (x / 256 ^ j))] 5)).heap.size = wr.heap.size + 1 := by simp
      have hown' := hown.alloc (Obj.cells #[bv (UInt8.ofNat (x / 256 ^ j))] 5)
      have hnew : (wr.alloc (Obj.cells #[bv (UInt8.ofNat (x / 256 ^ j))] 5)).heap[wr.heap.size]? = _ := heap_alloc_new wr _
      have hUa : Upd (fun _ => False) w (wr.alloc (Obj.cells #[bv (UInt8.ofNat (x / 256 ^ j))] 5)) := hU.trans (Upd.alloc _ _ _)
      have hsr : Src Tryz.prog 1 33 (.slice (some ⟨wr.heap.size, 0, none⟩) 1 1) 1 [bv (UInt8.ofNat (x / 256 ^ j))] (wr.alloc (Obj.cells #[bv (UInt8.ofNat (x / 256 ^ j))] 5)) :=
        Src.ofSlice _ Tryz.underlying33 _ 1 1 _ rfl (World.news_of_block hnew) (fun u hu => by simp at hu; subst hu; rfl)
      have hb := (byte_of x j).symm
      simp only [hb] at hz hown' hnew hUa hsr
      have HB := Lib.hid hb; clear hb
      clear hnew hz
      go_wp2_with (at_builtin; refine wpList_app _ rfl (.tmp 18) (.tmp 25) 33 33 rfl 5 i0 (.int .u8 0) 1 1 Tryz.underlying33 hi hz0 hz1 hz2 rfl a' lj.length c' (bvs lj) rfl hown' (.slice (some ⟨wr.heap.size, 0, none⟩) 1 1) 1 _ rfl hsr ?_ ?_ ?_)
      · unfold maxLen; omega
      · omega
      intro a2 c2 w2 hown2 hg2 hat2 hnil2
      have hne2 : a2 ≠ none := fun e => by first | exact hnil2 e | (have := hnil2.1 e; omega)
      clear hnil2
      rw [← HB.out] at hown2
      have hown3 : w2.ownsRow 0 5 1 (.slice a2 (lj ++ [UInt8.ofNat (x / 256 ^ j)]).length c2) (lj ++ [UInt8.ofNat (x / 256 ^ j)]).length (bvs (lj ++ [UInt8.ofNat (x / 256 ^ j)])) := by
        simpa [bvs] using hown2
      have hU2 : Upd (fun _ => False) w w2 := by
        refine hUa.next (Upd.grown (S := fun k => blk a' = some k) hg2 (fun k hk => hk)) (fun i hi hs => ?_)
        have := hG.out i hs
        omega
      have hf2 : ∀ g, blk a2 = some g → w.heap.size ≤ g := by
        intro g hg'
        rcases hat2 with h | h
        · exact hG.out g (h.symm.trans hg')
        · have := hUa.size
          simp at this
          rw [h] at hg'; cases hg'; first | exact this | (simp; omega)
      clear hg2 hat2
      go_wp2_with fail
      go_roundw
      case rel => exact ⟨j + 1, by omega, by go_num, a2, c2, _, (by show _ = _; rw [le_snoc, ← List.append_assoc, ← hlj.out]), by simp, hown3, hU2, hf2, fun e => absurd e hne2⟩
      case measure => simp [intOf]; omega
    · have hlt' : ¬ (j : Int) < max 1 (min n 8) := by rw [HN.out]; omega
      go_wp2_with fail
      go_ret
      obtain rfl : j = k := by omega
      have hl := hlj.out
      subst hl
      exact ⟨a', c', rfl, hown, hU, hG.out, ⟨fun e => by have := hZ.out e; omega, fun h => by cases h⟩⟩

theorem refInt_any (a : Option Addr) (c : Nat) (l : List UInt8) (v : Int) (w : World) (hv : Vw w a l.length c 1 (bvs l)) (hl : l.length ≤ 100000000) :
    Calls Tryz.prog 50 #[.slice a l.length c, .int .i64 v] w (MadeB w (l ++ i4 v) false) := by
  have hb := wrap_u64 v
  have hb2 := wrap_u64 (IntKind.u64.wrap v + 1)
  have e := i4_eq v (IntKind.u64.wrap (IntKind.u64.wrap v + 1)) (by omega) hb2.1
  obtain ⟨y, hy⟩ := Int.eq_ofNat_of_zero_le hb2.1
  have hy2 : y < 2 ^ 64 := by have := hb2.2.1; omega
  rw [hy] at e
  have HE := Lib.hid e
  have HY := Lib.hid hy
  clear hb hb2 e hy
  have h := refNum_any a c l y 4 w hv hy2 hl
  rw [show heldN 4 = 4 from rfl, show le y 4 = i4 v from HE.out] at h
  generalize l ++ i4 v = L at *
  have HH := Lib.hid h; clear h
  go_enter Tryz.func50, Tryz.ntmps50
  go_wp2_with fail
  rw [HY.out]
  refine HH.out.mono ?_
  rintro e w1 ⟨a1, c1, rfl, hrest⟩
  go_wp2_with fail
  go_ret
  exact ⟨a1, c1, rfl, hrest⟩
theorem refBool_any (a : Option Addr) (c : Nat) (l : List UInt8) (b : Bool) (w : World) (hv : Vw w a l.length c 1 (bvs l)) (hl : l.length ≤ 100000000) :
    Calls Tryz.prog 56 #[.slice a l.length c, .bool b] w (MadeB w (l ++ b1 b) false) := by
  cases b
  · have h := refNum_any a c l 0 1 w hv (by omega) hl
    rw [show le 0 (heldN 1) = b1 false from rfl] at h
    generalize l ++ b1 false = L at *
    have HH := Lib.hid h; clear h
    go_enter Tryz.func56, Tryz.ntmps56
    go_wp2_with fail
    refine HH.out.mono ?_
    rintro e w1 ⟨a1, c1, rfl, hrest⟩
    go_wp2_with fail
    go_ret
    exact ⟨a1, c1, rfl, hrest⟩
  · have h := refNum_any a c l 1 1 w hv (by omega) hl
    rw [show le 1 (heldN 1) = b1 true from rfl] at h
    generalize l ++ b1 true = L at *
    have HH := Lib.hid h; clear h
    go_enter Tryz.func56, Tryz.ntmps56
    go_wp2_with fail
    refine HH.out.mono ?_
    rintro e w1 ⟨a1, c1, rfl, hrest⟩
    go_wp2_with fail
    go_ret
    exact ⟨a1, c1, rfl, hrest⟩
theorem refText_any (a : Option Addr) (c : Nat) (l : List UInt8) (s : ByteArray) (w : World) (hv : Vw w a l.length c 1 (bvs l)) (hl : l.length ≤ 100000000) (hs : s.size ≤ 100000000) :
    Calls Tryz.prog 51 #[.slice a l.length c, .string s] w (MadeB w (l ++ t4 s) false) := by
  obtain ⟨i0, hi, hz0, hz1, hz2⟩ := info_parts infoU8
  go_enter Tryz.func51, Tryz.ntmps51
  go_wp2_with fail
  refine (refInt_any a c l _ w hv hl).mono ?_
  rintro e w1 ⟨a1, c1, rfl, hown, hU, hf, hnil⟩
  have hlen : (l ++ i4 s.size).length ≤ 100000004 := by simp [i4_length]; omega
  have ht : l ++ t4 s = (l ++ i4 s.size) ++ s.data.toList := by simp [t4]
  generalize l ++ i4 s.size = l1 at *
  have HT := Lib.hid ht
  have HF := Lib.hid hf
  have HN := Lib.hid hnil
  clear hf hnil ht
  go_wp2_with (at_builtin; refine wpList_app _ rfl (.tmp 8) (.tmp 9) 33 9 rfl 5 i0 (.int .u8 0) 1 1 Tryz.underlying33 hi hz0 hz1 hz2 rfl a1 l1.length c1 (bvs l1) rfl hown (.string s) s.size (bvs s.data.toList) rfl (Src.ofString w1 Tryz.underlying9 s) ?_ ?_ ?_)
  · unfold maxLen; omega
  · omega
  intro a2 c2 w2 hown2 hg2 hat2 hnil2
  have hne2 : a2 ≠ none := fun e => by have := (hnil2.1 e).1; have := HN.out.1 this; cases this
  clear hnil2
  have hown3 : w2.ownsRow 0 5 1 (.slice a2 (l1 ++ s.data.toList).length c2) (l1 ++ s.data.toList).length (bvs (l1 ++ s.data.toList)) := by
    simpa [bvs, size_toList] using hown2
  have hU2 : Upd (fun _ => False) w w2 := by
    refine hU.next (Upd.grown (S := fun k => blk a1 = some k) hg2 (fun k hk => hk)) (fun i hi hs => ?_)
    have := HF.out i hs
    omega
  have hf2 : ∀ g, blk a2 = some g → w.heap.size ≤ g := by
    intro g hg'
    rcases hat2 with h | h
    · exact HF.out g (h.symm.trans hg')
    · have := hU.size
      rw [h] at hg'; cases hg'; exact this
  clear hg2 hat2 hown2
  have HF2 := Lib.hid hf2; clear hf2
  go_wp2_with fail
  go_ret
  rw [HT.out]
  exact ⟨a2, c2, by simp [size_toList], hown3, hU2, HF2.out, ⟨fun e => absurd e hne2, fun h => by cases h⟩⟩
end Go.Proofs.YtccejkikphpnfaaGreatDoor
