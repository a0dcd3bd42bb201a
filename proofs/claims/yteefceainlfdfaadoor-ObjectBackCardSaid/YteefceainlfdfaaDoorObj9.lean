
/- The reference's Tree. -/
import Derived.Test.YteefceainlfdfaaDoorObj4
import Derived.Test.YteefceainlfdfaaDoorObj7
namespace Go.Proofs.YteefceainlfdfaaDoor
set_option linter.unusedSimpArgs false
set_option linter.unusedVariables false
set_option maxRecDepth 100000
open Go.ChangeShapes Go.WideShapes Go.ChangeAt Go.RowKit

theorem key_vw {w : World} {b o : Nat} {k : List UInt8} (hk : k.length = 32) (hr : w.rangeAt b o (bvs k)) : Vw w (some ⟨b, o, none⟩) 32 32 1 (bvs k) := by
  refine ⟨by rw [bvs_length, hk], Nat.le_refl _, by decide, (fun h => by cases h), fun x hx j u hu => ?_⟩
  cases hx
  have := hr j u hu
  unfold Addr.add
  split
  · rename_i h; subst h; exact this
  · exact this
theorem key_src {w : World} {b o : Nat} {k : List UInt8} (hk : k.length = 32) (hr : w.rangeAt b o (bvs k)) : Src Tryd.prog 1 28 (.slice (some ⟨b, o, none⟩) 32 32) 32 (bvs k) w :=
  (key_vw hk hr).src (P := Tryd.prog) (t := 28) Tryd.underlying28 (bvs_cells k)
theorem range_upd {S : Nat → Prop} {w w' : World} {b o : Nat} {cs : List Value} (h : w.rangeAt b o cs) (hU : Upd S w w') (hS : ¬ S b) : w'.rangeAt b o cs := fun j u hu => by
  have := h j u hu
  exact (hU.cell (p := ⟨b, o + j, none⟩) (World.block_lt_of_cell? w _ this) hS).trans this
theorem ent_range {w : World} {b o : Nat} {x : Ent} (h : w.rangeAt b o (entV x)) : w.rangeAt b (o + 2) (bvs x.key) := fun j u hu => by
  have := h (j + 2) u (by simp only [entV]; rw [List.getElem?_cons_succ, List.getElem?_cons_succ]; exact hu)
  rwa [show o + (j + 2) = o + 2 + j from by omega] at this
/-- What an append of m cells behind a list leaves. -/
theorem app_next {B : Nat} {w w1 w2 : World} {a1 a2 : Option Addr} {L k : List UInt8} {m c2 : Nat} (hU : Upd (fun _ => False) w w1) (hB : B = w.heap.size) (hf : ∀ g, blk a1 = some g → B ≤ g) (hk : k.length = m)
    (hown2 : w2.ownsRow 0 5 1 (.slice a2 (L.length + m) c2) (L.length + m) (bvs L ++ bvs k)) (hg2 : w1.grownBy w2 (blk a1)) (hat2 : blk a2 = blk a1 ∨ blk a2 = some w1.heap.size) :
    w2.ownsRow 0 5 1 (.slice a2 (L ++ k).length c2) (L ++ k).length (bvs (L ++ k)) ∧ Upd (fun _ => False) w w2 ∧ (∀ g, blk a2 = some g → B ≤ g) := by
  have hz := hU.size
  refine ⟨?_, ?_, ?_⟩
  · rw [List.length_append, hk, bvs_append]; exact hown2
  · refine hU.next (Upd.grown (S := fun k => blk a1 = some k) hg2 (fun k hk => hk)) (fun i hi hs => ?_)
    have := hf i hs
    omega
  · intro g hg'
    rcases hat2 with h | h
    · exact hf g (h.symm.trans hg')
    · rw [h] at hg'; cases hg'; omega

set_option maxHeartbeats 4000000 in
theorem r15Tree_any (a : Option Addr) (c : Nat) (l : List Ent) (w : World) (hv : Vw w a l.length c 34 (l.flatMap entV)) :
    Calls Tryd.prog 19 #[.slice a l.length c] w (Packed w (treeB l) (treeE l)) := by
  have hcap := hv.cap
  have hlc := hv.le
  unfold maxLen at hcap
  have hor := r15entries_any a c l w hv
  have HV := Lib.hid hv
  clear hv
  cases hT : treeL l with
  | false =>
    rw [hT] at hor
    have h1 : Hid (treeB l = [] ∧ treeE l = 5) := Lib.hid ⟨by unfold treeB; rw [hT]; rfl, by unfold treeE; rw [hT]; rfl⟩
    clear hT
    go_enter Tryd.func19, Tryd.ntmps19
    go_wp2_with fail
    refine hor.mono ?_
    rintro e w1 ⟨rfl, hU⟩
    have HU := Lib.hid hU
    clear hU hor
    go_wp2_with fail
    go_ret2
    rw [h1.out.1, h1.out.2]
    exact ⟨none, 0, rfl, Vw.nl _ _, (fun g h => by cases h), HU.out⟩
  | true =>
  rw [hT] at hor
  obtain ⟨i0, hi, hz0, hz1, hz2⟩ := info_parts infoU8
  have HIU := Lib.hid (And.intro hi (And.intro hz0 (And.intro hz1 hz2)))
  clear hi hz0 hz1 hz2
  obtain ⟨hl100, hps⟩ := treeL_short l hT
  have HPS := Lib.hid hps
  have HE2 : Hid (treeB l = encT l) := Lib.hid (by unfold treeB; rw [if_pos hT])
  have hR0 : Hid (treeE l = 0) := Lib.hid (by unfold treeE; rw [if_pos hT])
  have hcv : IntKind.u64.wrap (l.length : Int) = (l.length : Int) := by show _ % 18446744073709551616 = _; omega
  unfold encT at HE2
  obtain ⟨B, hB⟩ : ∃ B, B = w.heap.size := ⟨_, rfl⟩
  have HB := Lib.hid hB
  clear hps hT hB
  go_enter Tryd.func19, Tryd.ntmps19
  go_wp2_with fail
  refine hor.mono ?_
  rintro e w1 ⟨rfl, hU⟩
  have HU := Lib.hid (hU.trans (Upd.alloc (fun _ => False) w1 (.cells #[.int .u8 2] 5)))
  have hown : (w1.alloc (.cells #[.int .u8 2] 5)).ownsRow 0 5 1 (.slice (some ⟨w1.heap.size, 0, none⟩) 1 1) 1 (bvs [2]) := lit_own w1 2
  have hnum := refNum_any (some ⟨w1.heap.size, 0, none⟩) 1 [2] l.length 4 _ (Vw.of_own hown) (by omega) (by decide)
  clear hU hor hown
  go_wp2_with fail
  refine hnum.mono ?_
  clear hnum hcv
  rintro e w2 ⟨a2, c2, rfl, hown, hU2, hf2, hnil2⟩
  have hU02 := HU.out.trans hU2
  have hf : ∀ g, blk a2 = some g → B ≤ g := fun g hg => by have := hf2 g hg; have := HU.out.size; have := HB.out; omega
  have hle : ([2] ++ le l.length (heldN 4)) = [2] ++ le l.length 4 := rfl
  rw [hle] at hown
  have hll : ([2] ++ le l.length 4 : List UInt8).length ≤ 5 := by simp [le_length]
  have hlle : ([2] ++ le l.length (heldN 4) : List UInt8).length = ([2] ++ le l.length 4 : List UInt8).length := rfl
  generalize hL0 : ([2] ++ le l.length 4 : List UInt8) = l0 at *
  have HL0 := Lib.hid hL0
  have HI0 := Lib.hid (And.intro hown (And.intro hU02 hf))
  rw [hlle]
  clear hle hL0 hown hU02 hf hU2 hf2 hnil2 HU hlle
  go_wp2_with fail
  go_loopw [4, 5] (fun v i wr => ∃ (j : Nat) (ar : Option Addr) (cr : Nat) (L : List UInt8), j ≤ l.length ∧ i = .int .i64 (j : Int) ∧ v = .slice ar L.length cr ∧ Hid (L = l0 ++ (l.take j).flatMap encE) ∧ Hid (wr.ownsRow 0 5 1 (.slice ar L.length cr) L.length (bvs L) ∧ Upd (fun _ => False) w wr ∧ (∀ g, blk ar = some g → B ≤ g))) (fun _ i _ => l.length - (intOf i).toNat)
  case atStart => exact ⟨0, a2, c2, l0, Nat.zero_le _, rfl, rfl, Lib.hid (by simp), HI0⟩
  case round =>
    clear HI0
    obtain ⟨j, ar, cr, L, hj, rfl, rfl, HL, HI⟩ := hrel
    by_cases hlt : j < l.length
    · have hI : (j : Int) < (l.length : Int) := by omega
      obtain ⟨b, o, hb, hcell⟩ := ent_at HV.out (by omega)
      subst hb
      have hrg0 := hcell j hlt
      have hbw : b < w.heap.size := World.block_lt_of_cell? w _ (ent_path hrg0)
      have hsucc := flatMap_succ encE l j hlt
      have hxp := HPS.out _ (List.getElem_mem hlt)
      have hLl : L.length ≤ 20000 := by
        rw [HL.out]
        have := flatMap_len encE 137 (l.take j) (fun x hx => encE_len x (HPS.out x (List.mem_of_mem_take hx)))
        rw [List.length_take] at this
        rw [List.length_append]
        have h3 : min j l.length * 137 ≤ 100 * 137 := Nat.mul_le_mul_right _ (by omega)
        omega
      generalize l[j] = x at *
      have hxk := x.hk
      have HRG := Lib.hid (fun w' (h : Upd (fun _ => False) w w') => range_upd hrg0 h (fun h => h))
      have HSU := Lib.hid hsucc
      have hq0 := ent_path (HRG.out wr HI.out.2.1)
      have hq1 := ent_exec (HRG.out wr HI.out.2.1)
      have HQ := Lib.hid (And.intro hq0 hq1)
      clear hcell hsucc hrg0 hq0 hq1
      go_upto_region 7 with (fail)
      refine wp_region_plan_last [([0, 1, 2, 3, 4, 5, 7, 8, 9, 10, 11, 13, 14, 15, 16, 17], 6), ([], 12), ([], 18)] [19] (fun w' => w'.cell? ⟨b, o + j * 34, none⟩ = some (.string (str x.path)) ∧ w'.cell? ⟨b, o + j * 34 + 1, none⟩ = some (.bool x.exec)) (by kernel_rfl) (by kernel_rfl) HQ.out ?_
      iterate 16
        first
        | (refine plan_skip rfl rfl ?_)
        | (refine plan_take (v := ?_) rfl rfl (fun w' hS => ?_) ?_
           rotate_left
           · skip
             go_simp; try with_reducible rfl)
        simp only [Act.put, List.getElem_toArray, List.getElem_cons_zero, List.getElem_cons_succ, List.setIfInBounds_toArray, List.set_cons_zero, List.set_cons_succ]
      refine plan_act rfl (fun KK hKK => ?_)
      go_wp2_with fail
      have hvL := (Vw.of_own HI.out.1).upd (Upd.drew (fun _ => False) wr) (fun _ _ h => h)
      refine (refText_any ar cr L (str x.path) _ hvL (by omega) (by rw [str_size]; omega)).mono ?_
      rintro e w3 ⟨a3, c3, rfl, hown3, hU3, hf3, hnil3⟩
      have hU03 := (HI.out.2.1.trans (Upd.drew (fun _ => False) wr)).trans hU3
      rw [t4_str] at hown3 ⊢
      have hb3 : ∀ g, blk a3 = some g → B ≤ g := fun g hg => by have := hf3 g hg; have := HI.out.2.1.size; have := HB.out; simp at *; omega
      have HI3 := Lib.hid (And.intro hown3 (And.intro hU03 hb3))
      have hl3 : (L ++ tx x.path).length ≤ 20104 := by rw [List.length_append, tx_len]; omega
      have hq0 := ent_path (HRG.out w3 hU03)
      have hq1 := ent_exec (HRG.out w3 hU03)
      have HQ3 := Lib.hid (And.intro hq0 hq1)
      generalize hL3 : L ++ tx x.path = L3 at *
      have HL3 := Lib.hid hL3
      clear hL3 hown3 hU3 hf3 hnil3 hvL hU03 hb3 hq0 hq1
      go_wp2_with fail
      refine hKK.out _ _ (.inr HQ3.out) ?_
      refine plan_act rfl (fun K4 hK4 => ?_)
      go_wp2_with fail
      have hvL := Vw.of_own HI3.out.1
      refine (refBool_any a3 c3 L3 x.exec _ hvL (by omega)).mono ?_
      rintro e w4 ⟨a4, c4, rfl, hown4, hU4, hf4, hnil4⟩
      have hU04 := HI3.out.2.1.trans hU4
      have hb4 : ∀ g, blk a4 = some g → B ≤ g := fun g hg => by have := hf4 g hg; have := HI3.out.2.1.size; have := HB.out; omega
      have hl4 : (L3 ++ b1 x.exec).length ≤ 20105 := by rw [List.length_append]; simp only [b1, List.length_cons, List.length_nil]; omega
      have HQ4 := Lib.hid (And.intro (ent_path (HRG.out w4 hU04)) (ent_exec (HRG.out w4 hU04)))
      have hsrc := key_src x.hk (ent_range (HRG.out w4 hU04))
      generalize hL4 : L3 ++ b1 x.exec = L4 at *
      have HL4 := Lib.hid hL4
      have HI4 := Lib.hid (And.intro hU04 hb4)
      clear hL4 hU4 hf4 hnil4 hvL hU04 hb4
      go_wp2_with fail
      refine hK4.out _ _ (.inr HQ4.out) ?_
      refine plan_act rfl (fun K5 hK5 => ?_)
      obtain ⟨hi, hz0, hz1, hz2⟩ := HIU.out
      refine wpList_app _ rfl (.tmp 32) (.tmp 37) 28 28 rfl 5 i0 (.int .u8 0) 1 1 Tryd.underlying28 hi hz0 hz1 hz2 rfl a4 L4.length c4 (bvs L4) rfl hown4 (.slice (some ⟨b, o + j * 34 + 2, none⟩) 32 32) 32 (bvs x.key) rfl hsrc ?_ ?_ ?_
      · unfold maxLen; omega
      · omega
      clear hi hz0 hz1 hz2
      intro a5 c5 w5 hown5 hg5 hat5 hnil5
      obtain ⟨hr1, hr2, hr3⟩ := app_next (k := x.key) HI4.out.1 HB.out HI4.out.2 x.hk hown5 hg5 hat5
      have HI5 := Lib.hid (And.intro hr1 (And.intro hr2 hr3))
      have HQ5 := Lib.hid (And.intro (ent_path (HRG.out w5 hr2)) (ent_exec (HRG.out w5 hr2)))
      have hlen5 : Hid (L4.length + 32 = (L4 ++ x.key).length) := Lib.hid (by rw [List.length_append, x.hk])
      clear hown5 hg5 hat5 hnil5 hr1 hr2 hr3 hsrc hown4
      go_wp2_with fail
      refine hK5.out _ _ (.inr HQ5.out) ?_
      iterate 1
        first
        | (refine plan_lskip rfl rfl ?_)
        | (refine plan_last (v := ?_) rfl rfl (fun w' hS => ?_) ?_
           rotate_left
           · skip
             go_simp; try with_reducible rfl)
        simp only [Act.put, List.getElem_toArray, List.getElem_cons_zero, List.getElem_cons_succ, List.setIfInBounds_toArray, List.set_cons_zero, List.set_cons_succ]
      refine plan_end ?_
      rw [hlen5.out]
      have heq : L4 ++ x.key = l0 ++ (l.take (j + 1)).flatMap encE := by
        rw [← HSU.out, ← HL4.out, ← HL3.out, HL.out]
        simp [encE]
      generalize L4 ++ x.key = L5 at *
      have HEQ := Lib.hid heq
      clear heq hlen5
      go_wp2_with fail
      go_roundw
      case rel => exact ⟨j + 1, a5, c5, L5, by omega, by first | rfl | go_num, rfl, HEQ, HI5⟩
      case measure => simp [intOf]; omega
    · obtain rfl : j = l.length := by omega
      go_wp2_with fail
      go_ret2
      obtain ⟨hown, hU, hf⟩ := HI.out
      have hE := HE2.out
      have hL := HL.out
      rw [List.take_length] at hL
      rw [hE, hR0.out, ← hL]
      exact ⟨ar, cr, rfl, Vw.of_own hown, (fun g hg => ⟨by have := hf g hg; have := HB.out; omega, (hown.lt g ((own_blk _ _ _).trans hg)).2⟩), hU⟩
end Go.Proofs.YteefceainlfdfaaDoor
