
/- A record's frame: record.Frame, the reference's Frame. -/
import Derived.Test.YteefceainlfdfaaRec1
namespace Go.Proofs.Yteefceainlfdfaa
set_option linter.unusedSimpArgs false
set_option linter.unusedVariables false
open Go.ChangeShapes Go.WideShapes Go.ChangeAt Go.RowKit

theorem four_held : (min (max (4 : Int) 1) 8).toNat = 4 := by decide
theorem four_heldN : heldN 4 = 4 := by decide
theorem frameL_app (l : List UInt8) : bvs (le l.length 4 ++ le (sum32L l) 4) ++ bvs l = bvs (frameL l) := by rw [← bvs_append]; rfl

set_option maxRecDepth 100000 in
set_option maxHeartbeats 4000000 in
theorem frame_any0 (a : Option Addr) (c : Nat) (l : List UInt8) (w : World) (hv : Vw w a l.length c 1 (bvs l)) (hl : l.length ≤ 1000000) :
    Calls Try.prog 14 #[.slice a l.length c] w (MadeB w (frameL l) false) := by
  obtain ⟨i0, hi, hz0, hz1, hz2⟩ := info_parts infoU8
  have HIU := Lib.hid (And.intro hi (And.intro hz0 (And.intro hz1 hz2)))
  clear hi hz0 hz1 hz2
  go_enter Try.func14, Try.ntmps14
  go_upto_region 2 with (fail)
  have hW1 := Wr.new w 51
  have hU1 := Upd.alloc (fun k => w.heap.size ≤ k) w (Obj.cells #[.slice none 0 0] 51)
  have hz1 : (w.alloc (Obj.cells #[.slice none 0 0] 51)).heap.size = w.heap.size + 1 := by simp
  have HVW := Lib.hid hv
  clear hv
  generalize w.alloc (Obj.cells #[.slice none 0 0] 51) = w1 at *
  obtain ⟨bw, hbw⟩ : ∃ bw, w.heap.size = bw := ⟨_, rfl⟩
  rw [hbw] at hW1 hU1 hz1 ⊢
  have HB := Lib.hid hbw
  clear hbw
  go_wp2_with fail
  refine (num_any bw 51 none 0 [] l.length 4 w1 hW1 (by omega) (by simp)).mono ?_
  rintro e w2 ⟨rfl, a2, c2, hW2, hU2, hS2⟩
  rw [four_held, List.nil_append] at hW2
  have hz2 := hU2.size
  have hU02 := hU1.next hU2 (fun i hi h => by
    rcases h with h | h
    · omega
    · cases h)
  have hv2 := HVW.out.upd_ge hU02 (Nat.le_of_eq HB.out)
  have hg2 : ∀ k, blk a2 = some k → bw ≤ k := fun k hk => by
    rcases hS2 k hk with h | h
    · cases h
    · omega
  clear hW1 hU1 hU2 hS2
  go_wp2_with fail
  refine (recSum_any0 a c l w2 hv2 (by omega)).mono ?_
  rintro e w3 ⟨rfl, hU3⟩
  have hs := sum32_lt l
  have hW3 := hW2.upd hU3 (fun h => h) (fun _ _ h => h)
  have hv3 := hv2.upd hU3 (fun _ _ h => h)
  have hz3 := hU3.size
  have hU03 := hU02.trans (hU3.mono (fun _ _ h => h.elim))
  clear hW2 hU02 hU3 hv2
  have HFL := Lib.hid (frameL_app l)
  obtain ⟨sm, hsm⟩ : ∃ sm, sum32L l = sm := ⟨_, rfl⟩
  rw [hsm] at hs
  rw [hsm] at HFL ⊢
  have HSM := Lib.hid hsm
  clear hsm
  go_wp2_with fail
  refine (num_any bw 51 a2 c2 (le l.length 4) sm 4 w3 hW3 (by omega) (by rw [le_length]; omega)).mono ?_
  rintro e w4 ⟨rfl, a4, c4, hW4, hU4, hS4⟩
  rw [four_held] at hW4
  have hz4 := hU4.size
  have hU04 := hU03.next hU4 (fun i hi h => by
    rcases h with h | h
    · omega
    · exact hg2 i h)
  have hv4 := HVW.out.upd_ge hU04 (Nat.le_of_eq HB.out)
  clear hW3 hU03 hU4 hS4 hv3 hg2
  go_wp2_with fail
  refine (bytes_any bw 51 a4 c4 (le l.length 4 ++ le sm 4) w4 hW4 (by rw [List.length_append, le_length, le_length]; omega)).mono ?_
  rintro e w5 ⟨a5, c5, rfl, hown5, hU5, hfr5, hnil5⟩
  have hv5 := hv4.upd hU5 (fun _ _ h => h)
  have hz5 := hU5.size
  have hU05 := hU04.trans (hU5.mono (fun _ _ h => h.elim))
  have h8 : (le l.length 4 ++ le sm 4).length = 8 := by rw [List.length_append, le_length, le_length]
  rw [h8] at hown5 ⊢
  have hsrc := hv5.src (P := Try.prog) (t := 22) Try.underlying22 (bvs_cells l)
  clear hW4 hU04 hU5 hv4 h8
  go_wp2_with (at_builtin; refine wpList_app _ rfl (.tmp 17) (.tmp 18) 22 22 rfl 5 i0 (.int .u8 0) 1 1 Try.underlying22 HIU.out.1 HIU.out.2.1 HIU.out.2.2.1 HIU.out.2.2.2 rfl a5 8 c5 (bvs (le l.length 4 ++ le sm 4)) rfl hown5 (.slice a l.length c) l.length (bvs l) rfl hsrc ?_ ?_ ?_)
  · unfold maxLen; omega
  · omega
  intro a6 c6 w6 hown6 hg6 hat6 hnil6
  rw [HFL.out] at hown6
  have hU6 := Upd.grown (S := fun k => blk a5 = some k) hg6 (fun k hk => hk)
  have hU06 := hU05.trans (hU6.mono (fun k _ h => by have := hfr5 k h; omega))
  have hge6 : ∀ g, blk a6 = some g → bw ≤ g := fun g hg => by
    rcases hat6 with h | h
    · rw [h] at hg; have := hfr5 g hg; omega
    · rw [h] at hg; cases hg; omega
  have hlen : 8 + l.length = (frameL l).length := by rw [frameL_length]; omega
  have HO := Lib.hid hown6
  have HN6 := Lib.hid hnil6
  have HLEN := Lib.hid hlen
  clear hown6 hnil6 hlen hown5 hsrc hg6 hU6 hU05 hat6 hnil5 hfr5
  go_wp2_with fail
  go_ret
  refine ⟨a6, c6, ?_, ?_, (hU06.mono (fun i hi h => by have := HB.out; omega)), fun g hg => ?_, ?_⟩
  · rw [← HLEN.out]; rfl
  · rw [← HLEN.out]; exact HO.out
  · have := hge6 g hg; have := HB.out; omega
  · constructor
    · intro h
      have := (HN6.out.1 h)
      have h5 := HO.out
      subst h
      rcases h5.2 with ⟨h, h'⟩ | ⟨_, _, _, h, _⟩
      · omega
      · cases h
    · intro h; cases h

theorem frame_any (a : Option Addr) (c : Nat) (l : List UInt8) (w : World) (hv : Vw w a l.length c 1 (bvs l)) (hl : l.length ≤ 1000000) (hlb : ∀ b, blk a = some b → b < w.heap.size) :
    Calls Try.prog 14 #[.slice a l.length c] w (MadeB w (frameL l) false) := frame_any0 a c l w hv hl

set_option maxRecDepth 100000 in
set_option maxHeartbeats 4000000 in
theorem refFrame_any (a : Option Addr) (c : Nat) (l : List UInt8) (w : World) (hv : Vw w a l.length c 1 (bvs l)) (hl : l.length ≤ 1000000) (hlb : ∀ b, blk a = some b → b < w.heap.size) :
    Calls Try.prog 15 #[.slice a l.length c] w (MadeB w (frameL l) false) := by
  obtain ⟨i0, hi, hz0, hz1, hz2⟩ := info_parts infoU8
  have HIU := Lib.hid (And.intro hi (And.intro hz0 (And.intro hz1 hz2)))
  clear hi hz0 hz1 hz2
  go_enter Try.func15, Try.ntmps15
  go_wp2_with fail
  refine (refNum_any none 0 [] l.length 4 w (Vw.nl w 1) (by omega) (by simp)).mono ?_
  rintro e w1 ⟨a1, c1, rfl, hown1, hU1, hfr1, hnil1⟩
  rw [four_heldN, List.nil_append] at hown1 ⊢
  have h4 : (le l.length 4).length = 4 := le_length _ _
  have hv1 := hv.upd hU1 (fun _ _ h => h)
  have hz1 := hU1.size
  have HLB := Lib.hid hlb
  have HH4 := Lib.hid h4
  clear hlb hv h4
  go_wp2_with fail
  refine (refSum32_any a c l w1 hv1 (by omega) (fun b hb => by have := HLB.out b hb; omega)).mono ?_
  rintro e w2 ⟨rfl, hU2⟩
  have hs := sum32_lt l
  have hv2 := hv1.upd hU2 (fun _ _ h => h)
  have hown2 := ownsRow_upd hown1 hU2 (fun _ _ h => h)
  have hU02 := hU1.trans hU2
  have hz2 := hU2.size
  have HFL := Lib.hid (frameL_app l)
  obtain ⟨sm, hsm⟩ : ∃ sm, sum32L l = sm := ⟨_, rfl⟩
  rw [hsm] at hs
  rw [hsm] at HFL ⊢
  have HSM := Lib.hid hsm
  clear hsm hown1 hU1 hU2 hv1
  go_wp2_with fail
  refine (refNum_any a1 c1 (le l.length 4) sm 4 w2 (Vw.of_own hown2) (by omega) (by rw [HH4.out]; omega)).mono ?_
  rintro e w3 ⟨a3, c3, rfl, hown3, hU3, hfr3, hnil3⟩
  rw [four_heldN] at hown3 ⊢
  have hv3 := hv2.upd hU3 (fun _ _ h => h)
  have hU03 := hU02.trans hU3
  have h8 : (le l.length 4 ++ le sm 4).length = 8 := by rw [List.length_append, le_length, le_length]
  rw [h8] at hown3 ⊢
  have hz3 := hU3.size
  have hsrc := hv3.src (P := Try.prog) (t := 22) Try.underlying22 (bvs_cells l)
  clear hown2 hU02 hU3 hv2 h8
  go_wp2_with (at_builtin; refine wpList_app _ rfl (.tmp 10) (.tmp 11) 22 22 rfl 5 i0 (.int .u8 0) 1 1 Try.underlying22 HIU.out.1 HIU.out.2.1 HIU.out.2.2.1 HIU.out.2.2.2 rfl a3 8 c3 (bvs (le l.length 4 ++ le sm 4)) rfl hown3 (.slice a l.length c) l.length (bvs l) rfl hsrc ?_ ?_ ?_)
  · unfold maxLen; omega
  · omega
  intro a6 c6 w6 hown6 hg6 hat6 hnil6
  rw [HFL.out] at hown6
  have hU6 := Upd.grown (S := fun k => blk a3 = some k) hg6 (fun k hk => hk)
  have hU06 := hU03.next hU6 (fun k hk h => by have := hfr3 k h; omega)
  have hge6 : ∀ g, blk a6 = some g → w.heap.size ≤ g := fun g hg => by
    rcases hat6 with h | h
    · rw [h] at hg; have := hfr3 g hg; omega
    · rw [h] at hg; cases hg; omega
  have hlen : 8 + l.length = (frameL l).length := by rw [frameL_length]; omega
  have HO := Lib.hid hown6
  have HLEN := Lib.hid hlen
  clear hown6 hnil6 hlen hown3 hsrc hg6 hU6 hU03 hat6 hnil3 hfr3
  go_wp2_with fail
  go_ret
  refine ⟨a6, c6, ?_, ?_, hU06, hge6, ?_⟩
  · rw [← HLEN.out]; rfl
  · rw [← HLEN.out]; exact HO.out
  · constructor
    · intro h
      have h5 := HO.out
      subst h
      rcases h5.2 with ⟨h, h'⟩ | ⟨_, _, _, h, _⟩
      · omega
      · cases h
    · intro h; cases h
end Go.Proofs.Yteefceainlfdfaa
