
/- The reference's PackRoot, of a root without markers and bookmarks, and PackMove. -/
import Derived.Test.YtccejkikphpnfaaGreatDoorMet12
namespace Go.Proofs.YtccejkikphpnfaaGreatDoor
set_option linter.unusedSimpArgs false
set_option linter.unusedVariables false
set_option maxRecDepth 100000
open Go.ChangeShapes Go.WideShapes Go.ChangeAt Go.RowKit

theorem key_vw {w : World} {b o : Nat} {k : List UInt8} (hk : k.length = 32) (hr : w.rangeAt b o (bvs k)) : Vw w (some ⟨b, o, none⟩) 32 32 1 (bvs k) := by
  refine ⟨by rw [bvs_length, hk], Nat.le_refl _, by decide, (fun h => by cases h), fun x hx j u hu => ?_⟩
  cases hx
  have := hr j u hu
  unfold Addr.add
  split
  · rename_i h; subst h; exact this
  · exact this
theorem key_src {w : World} {b o : Nat} {k : List UInt8} (hk : k.length = 32) (hr : w.rangeAt b o (bvs k)) : Src Tryz.prog 1 33 (.slice (some ⟨b, o, none⟩) 32 32) 32 (bvs k) w :=
  (key_vw hk hr).src (P := Tryz.prog) (t := 33) Tryz.underlying33 (bvs_cells k)
/-- What an append of m cells behind a list leaves. -/
theorem app_next {B : Nat} {w w1 w2 : World} {a1 a2 : Option Addr} {L k : List UInt8} {m c2 : Nat} (hU : Upd (fun _ => False) w w1) (hB : B = w.heap.size) (hf : ∀ g, blk a1 = some g → B ≤ g) (hk : k.length = m)
    (hown2 : w2.ownsRow 0 5 1 (.slice a2 (L.length + m) c2) (L.length + m) (bvs L ++ bvs k)) (hg2 : w1.grownBy w2 (blk a1)) (hat2 : blk a2 = blk a1 ∨ blk a2 = some w1.heap.size) :
    w2.ownsRow 0 5 1 (.slice a2 (L ++ k).length c2) (L ++ k).length (bvs (L ++ k)) ∧ Upd (fun _ => False) w w2 ∧ (∀ g, blk a2 = some g → B ≤ g) := by
  have hz := hU.size
  refine ⟨?_, ?_, ?_⟩
  · rw [List.length_append, hk, bvs_append]; exact hown2
  · refine hU.next (Upd.grown (S := fun k => blk a1 = some k) hg2 (fun k hk => hk)) (fun i hi hs => ?_)
    have := hf i hs
    omega
  · intro g hg'
    rcases hat2 with h | h
    · exact hf g (h.symm.trans hg')
    · rw [h] at hg'; cases hg'; omega

theorem lit_own (w : World) (x : UInt8) : (w.alloc (.cells #[.int .u8 (x.toNat : Int)] 5)).ownsRow 0 5 1 (.slice (some ⟨w.heap.size, 0, none⟩) 1 1) 1 [.int .u8 (x.toNat : Int)] :=
  World.ownsRow_lit (base := 0) (e := 5) (size := 1) w #[.int .u8 (x.toNat : Int)] 1 (Nat.zero_le _) (by decide) rfl
theorem r21PackMove_any (v : Int) (redo : Bool) (w : World) : Calls Tryz.prog 17 #[.int .i64 v, .bool redo] w (Made w (moveL v redo)) := by
  have hown : (w.alloc (.cells #[.int .u8 2] 5)).ownsRow 0 5 1 (.slice (some ⟨w.heap.size, 0, none⟩) 1 1) 1 (bvs [2]) := lit_own w 2
  have hUa := Upd.alloc (fun _ => False) w (.cells #[.int .u8 2] 5)
  have hint := refInt_any (some ⟨w.heap.size, 0, none⟩) 1 [2] v _ (Vw.of_own hown) (by decide)
  have HD : Hid (moveL v redo = [2] ++ i4 v ++ b1 redo) := Lib.hid rfl
  generalize moveL v redo = LL at *
  have HU := Lib.hid hUa
  clear hown hUa
  dsimp only [List.length_cons, List.length_nil] at hint
  go_enter Tryz.func17, Tryz.ntmps17
  go_wp2_with fail
  refine hint.mono ?_
  rintro e w1 ⟨a1, c1, rfl, hown, hU, hf, hnil⟩
  have hl : (([2] : List UInt8) ++ i4 v).length ≤ 5 := by rw [List.length_append, i4_length]; simp
  have hbo := refBool_any a1 c1 _ redo w1 (Vw.of_own hown) (by omega)
  rw [← HD.out] at hbo
  have HU1 := Lib.hid (HU.out.trans hU)
  generalize ([2] : List UInt8) ++ i4 v = l1 at *
  clear hint hown hU hf hnil hl
  go_wp2_with fail
  refine hbo.mono ?_
  rintro e w2 ⟨a2, c2, rfl, hown, hU, hf, hnil⟩
  have hz := HU1.out.size
  have HZ := Lib.hid (And.intro (Vw.of_own hown) (And.intro (fun g (hg : blk a2 = some g) => And.intro (Nat.le_trans hz (hf g hg)) (hown.lt g ((own_blk _ _ _).trans hg)).2) (HU1.out.trans hU)))
  clear hbo hown hU hf hnil hz
  go_wp2_with fail
  go_ret
  exact ⟨a2, c2, rfl, HZ.out⟩

set_option maxHeartbeats 8000000 in
theorem r21PackRoot_any (p : Int) (a : Option Addr) (c : Nat) (ks : List Ky) (k : Int) (w : World) (h : RootIn p ks.length k) (hv : Vw w a ks.length c 32 (ks.flatMap kyV)) :
    Calls Tryz.prog 12 #[.agg (rootA p a ks.length c k)] w (Packed w (rootL p ks k) 0) := by
  have hU1 := Upd.alloc (fun _ => False) w (.cells (rootA p a ks.length c k) 26)
  have hrow := heap_alloc_new w (.cells (rootA p a ks.length c k) 26)
  have hmr := rootMay_ok p a ks.length c k (w.alloc (.cells (rootA p a ks.length c k) 26)) h
  have hv1 := hv.upd hU1 (fun _ _ h => h)
  unfold rootA at hU1 hrow hmr hv1 ⊢
  have HP := Lib.hid (And.intro hU1 (And.intro hrow hv1))
  have hn := h.n1
  have HD : Hid (rootL p ks k = [1] ++ i4 p ++ i4 ks.length ++ kysB ks ++ i4 0 ++ i4 0 ++ i4 k) := Lib.hid rfl
  generalize rootL p ks k = LL at *
  clear hU1 hrow hv1 hv h
  go_enter Tryz.func12, Tryz.ntmps12
  go_upto_region 1 with (fail)
  obtain ⟨hU1, hrow, hv1⟩ := HP.out
  generalize w.alloc (.cells #[.int .i64 p, .slice a ks.length c, .slice none 0 0, .slice none 0 0, .int .i64 k] 26) = y0 at *
  obtain ⟨RB, hRB⟩ : ∃ B, w.heap.size = B := ⟨_, rfl⟩
  rw [hRB] at hrow ⊢
  have HB : Hid (w.heap.size = RB) := Lib.hid hRB
  have HU0 := Lib.hid hU1
  have HR0 := Lib.hid hrow
  have hz0 := lt_of_heap hrow
  have HZ0 := Lib.hid hz0
  clear hRB hU1 hz0
  have hrow' := hrow
  clear hrow
  have HV0 := Lib.hid hv1
  clear hv1 HP
  go_wp2_with (refine wpList_load_row rfl 26 (.tmp 1) rfl RB #[.int .i64 p, .slice a ks.length c, .slice none 0 0, .slice none 0 0, .int .i64 k] 26 (0, 0) _ rfl hrow' Tryz.underlying26 rfl (by rw [infoRoot]; rfl) ?_)
  refine hmr.mono ?_
  rintro e w1 ⟨rfl, hU2⟩
  have HR : Hid (∀ w', Upd (fun _ => False) w1 w' → w'.heap[RB]? = some (.cells #[.int .i64 p, .slice a ks.length c, .slice none 0 0, .slice none 0 0, .int .i64 k] 26)) := Lib.hid (fun w' hU => (hU.block RB (Nat.lt_of_lt_of_le HZ0.out hU2.size) (fun h => h)).trans ((hU2.block RB HZ0.out (fun h => h)).trans HR0.out))
  have HV : Hid (∀ w', Upd (fun _ => False) w1 w' → Vw w' a ks.length c 32 (ks.flatMap kyV)) := Lib.hid (fun w' hU => HV0.out.upd (hU2.trans hU) (fun _ _ h => h))
  have HU := Lib.hid (HU0.out.trans hU2)
  have hz1 : RB < w1.heap.size := Nat.lt_of_lt_of_le HZ0.out hU2.size
  have HZ := Lib.hid hz1
  clear hmr hU2 HU0 HR0 HZ0 hrow' HV0 hz1
  obtain ⟨i0, hi, hz0, hz1, hz2⟩ := info_parts infoU8
  have HIU := Lib.hid (And.intro hi (And.intro hz0 (And.intro hz1 hz2)))
  clear hi hz0 hz1 hz2
  obtain ⟨z0, z1, z2, z3, z4⟩ := root_cells (HR.out _ (Upd.refl _ _))
  clear z2 z3 z4
  go_upto_region 3 with (fail)
  refine wp_region_plan_last [([1, 2, 4, 5, 6], 0), ([], 3), ([], 7)] [8] (fun w' => w'.cell? ⟨RB, 0, none⟩ = some (.int .i64 p) ∧ w'.cell? ⟨RB, 1, none⟩ = some (.slice a ks.length c)) (by kernel_rfl) (by kernel_rfl) ⟨z0, z1⟩ ?_
  clear z0 z1
  iterate 5
    first
    | (refine plan_skip rfl rfl ?_)
    | (refine plan_take (v := ?_) rfl rfl (fun w' hS => ?_) ?_
       rotate_left
       · skip
         go_simp; try with_reducible rfl)
    simp only [Act.put, List.getElem_toArray, List.getElem_cons_zero, List.getElem_cons_succ, List.setIfInBounds_toArray, List.set_cons_zero, List.set_cons_succ]
  refine plan_act rfl (fun K1 hK1 => ?_)
  have hown : (w1.drew.alloc (.cells #[.int .u8 1] 5)).ownsRow 0 5 1 (.slice (some ⟨w1.drew.heap.size, 0, none⟩) 1 1) 1 (bvs [1]) := lit_own w1.drew 1
  have hUa : Upd (fun _ => False) w1 (w1.drew.alloc (.cells #[.int .u8 1] 5)) := (Upd.drew _ _).trans (Upd.alloc _ _ _)
  have hint := refInt_any (some ⟨w1.drew.heap.size, 0, none⟩) 1 [1] p _ (Vw.of_own hown) (by decide)
  dsimp only [List.length_cons, List.length_nil] at hint
  have HA := Lib.hid hUa
  obtain ⟨z0, z1, z2, z3, z4⟩ := root_cells (HR.out _ hUa)
  have hq := And.intro z0 z1
  clear z0 z1 z2 z3 z4 hown hUa
  go_wp2_with fail
  refine hK1.out _ _ (.inr hq) ?_
  clear hq
  refine plan_act rfl (fun K2 hK2 => ?_)
  go_wp2_with fail
  refine hint.mono ?_
  rintro ee v1 ⟨e, d, rfl, hown, hU, hf, hnil⟩
  have hU1 := HA.out.trans hU
  have hb : ∀ g, blk e = some g → w1.heap.size ≤ g := fun g hg => by have := hf g hg; have := HA.out.size; omega
  have hl1 : (([1] : List UInt8) ++ i4 p).length ≤ 5 := by rw [List.length_append, i4_length]; simp
  generalize hL : ([1] : List UInt8) ++ i4 p = l1 at *
  have Hl1 := Lib.hid hL
  have HI := Lib.hid (And.intro hown (And.intro hU1 hb))
  obtain ⟨z0, z1, z2, z3, z4⟩ := root_cells (HR.out _ hU1)
  have hq := And.intro z0 z1
  clear z0 z1 z2 z3 z4 hL hint hown hU hf hnil hU1 hb HA
  go_wp2_with fail
  refine hK2.out _ _ (.inr hq) ?_
  clear hq
  refine plan_act rfl (fun K3 hK3 => ?_)
  go_wp2_with fail
  refine (refInt_any e d l1 (ks.length : Int) _ (Vw.of_own HI.out.1) (by omega)).mono ?_
  rintro ee v2 ⟨e2, d2, rfl, hown, hU, hf, hnil⟩
  have hU2 := HI.out.2.1.trans hU
  have hb : ∀ g, blk e2 = some g → w1.heap.size ≤ g := fun g hg => by have := hf g hg; have := HI.out.2.1.size; omega
  have hl2 : (l1 ++ i4 (ks.length : Int)).length ≤ 9 := by rw [List.length_append, i4_length]; omega
  generalize hL : l1 ++ i4 (ks.length : Int) = l2 at *
  have Hl2 := Lib.hid hL
  clear HI
  have HI := Lib.hid (And.intro hown (And.intro hU2 hb))
  obtain ⟨z0, z1, z2, z3, z4⟩ := root_cells (HR.out _ hU2)
  have hq := And.intro z0 z1
  clear z0 z1 z2 z3 z4 hL hown hU hf hnil hU2 hb
  go_wp2_with fail
  refine hK3.out _ _ (.inr hq) ?_
  clear hq
  iterate 1
    first
    | (refine plan_lskip rfl rfl ?_)
    | (refine plan_last (v := ?_) rfl rfl (fun w' hS => ?_) ?_
       rotate_left
       · skip
         go_simp; try with_reducible rfl)
    simp only [Act.put, List.getElem_toArray, List.getElem_cons_zero, List.getElem_cons_succ, List.setIfInBounds_toArray, List.set_cons_zero, List.set_cons_succ]
  refine plan_end ?_
  go_wp2_with fail
  go_loopw [4, 5] (fun s i wr => ∃ (j : Nat) (e : Option Addr) (d : Nat) (L : List UInt8), Hid (L = l2 ++ kysB (ks.take j)) ∧ j ≤ ks.length ∧ s = .slice e L.length d ∧ i = .int .i64 (j : Int) ∧ Hid (wr.ownsRow 0 5 1 (.slice e L.length d) L.length (bvs L) ∧ Upd (fun _ => False) w1 wr ∧ (∀ g, blk e = some g → w1.heap.size ≤ g))) (fun _ i _ => ks.length - (intOf i).toNat)
  case atStart => exact ⟨0, e2, d2, l2, Lib.hid (by simp [kysB]), Nat.zero_le _, rfl, rfl, HI⟩
  case round =>
    clear HI
    obtain ⟨j, e, d, L, HLj, hj, rfl, rfl, HI⟩ := hrel
    have hlL : L.length ≤ 70000 := by have := kysB_le ks j hn; rw [HLj.out, List.length_append]; omega
    obtain ⟨z0, z1, z2, z3, z4⟩ := root_cells (HR.out _ HI.out.2.1)
    clear z0 z3 z4
    by_cases hlt : j < ks.length
    · have hI : (j : Int) < (ks.length : Int) := by omega
      obtain ⟨b, o, hb, hcell⟩ := ky_at (HV.out _ HI.out.2.1) (by omega)
      subst hb
      have hrg : wr.rangeAt b (o + j * 32) (bvs ks[j].b) := hcell j hlt
      have hk32 := ks[j].h
      have hsucc : L ++ ks[j].b = l2 ++ kysB (ks.take (j + 1)) := by rw [HLj.out, List.append_assoc, kysB_succ ks j hlt]
      generalize ks[j].b = kb at *
      have hsrc := key_src hk32 hrg
      have hown := HI.out.1
      have HSU := Lib.hid hsucc
      clear hcell hsucc hrg
      have hi := HIU.out.1
      have hz0 := HIU.out.2.1
      have hz1 := HIU.out.2.2.1
      have hz2 := HIU.out.2.2.2
      go_upto_region 7 with (fail)
      go_wp2_with (at_builtin; refine wpList_app _ rfl (.tmp 27) (.tmp 32) 33 33 rfl 5 i0 (.int .u8 0) 1 1 Tryz.underlying33 hi hz0 hz1 hz2 rfl e L.length d (bvs L) rfl hown (.slice (some ⟨b, o + j * 32, none⟩) 32 32) 32 (bvs kb) rfl hsrc ?_ ?_ ?_)
      · unfold maxLen; omega
      · omega
      clear hi hz0 hz1 hz2
      intro a3 c3 w3 hown3 hg3 hat3 hnil3
      have HI3 := Lib.hid (app_next (w := w1) HI.out.2.1 rfl HI.out.2.2 hk32 hown3 hg3 hat3)
      have hlen3 : L.length + 32 = (L ++ kb).length := by rw [List.length_append, hk32]
      clear hown3 hg3 hat3 hnil3 hsrc hown z1 z2
      go_wp2_with fail
      go_roundw
      case rel => exact ⟨j + 1, a3, c3, L ++ kb, Lib.hid HSU.out, by omega, by rw [hlen3], by first | rfl | go_num, HI3⟩
      case measure => simp [intOf]; omega
    · obtain rfl : j = ks.length := by omega
      have HLL := HLj.out
      rw [List.take_length] at HLL
      have HLk := Lib.hid HLL
      clear HLj HLL hlt
      obtain ⟨l3, hl30⟩ : ∃ l, l = L := ⟨_, rfl⟩
      subst hl30
      have hl3 := hlL
      go_wp2_with fail
      refine (refInt_any e d l3 0 _ (Vw.of_own HI.out.1) (by omega)).mono ?_
      rintro ee v2 ⟨e2, d2, rfl, hown, hU, hf, hnil⟩
      have hU2 := HI.out.2.1.trans hU
      have hb : ∀ g, blk e2 = some g → w1.heap.size ≤ g := fun g hg => by have := hf g hg; have := HI.out.2.1.size; omega
      have hl4 : (l3 ++ i4 0).length ≤ 70004 := by rw [List.length_append, i4_length]; omega
      generalize hL : l3 ++ i4 0 = l4 at *
      have Hl4 := Lib.hid hL
      clear HI
      have HI := Lib.hid (And.intro hown (And.intro hU2 hb))
      clear hL hown hU hf hnil hU2 hb
      obtain ⟨e, he⟩ : ∃ e, e = e2 := ⟨_, rfl⟩
      subst he
      obtain ⟨d, hd⟩ : ∃ d, d = d2 := ⟨_, rfl⟩
      subst hd
      clear z1 z2
      go_wp2_with fail
      go_loopw [4, 6] (fun s i wr => s = .slice e l4.length d ∧ i = .int .i64 0 ∧ Hid (wr.ownsRow 0 5 1 (.slice e l4.length d) l4.length (bvs l4) ∧ Upd (fun _ => False) w1 wr ∧ (∀ g, blk e = some g → w1.heap.size ≤ g))) (fun _ _ _ => 0)
      case atStart => exact ⟨rfl, rfl, HI⟩
      case round =>
        clear HI
        obtain ⟨rfl, rfl, HI⟩ := hrel
        obtain ⟨z0, z1, z2, z3, z4⟩ := root_cells (HR.out _ HI.out.2.1)
        clear z0 z1 z4
        go_wp2_with fail
        refine (refInt_any e d l4 0 _ (Vw.of_own HI.out.1) (by omega)).mono ?_
        rintro ee v2 ⟨e2, d2, rfl, hown, hU, hf, hnil⟩
        have hU2 := HI.out.2.1.trans hU
        have hb : ∀ g, blk e2 = some g → w1.heap.size ≤ g := fun g hg => by have := hf g hg; have := HI.out.2.1.size; omega
        have hl5 : (l4 ++ i4 0).length ≤ 70008 := by rw [List.length_append, i4_length]; omega
        generalize hL : l4 ++ i4 0 = l5 at *
        have Hl5 := Lib.hid hL
        clear HI
        have HI := Lib.hid (And.intro hown (And.intro hU2 hb))
        clear hL hown hU hf hnil hU2 hb
        obtain ⟨e, he⟩ : ∃ e, e = e2 := ⟨_, rfl⟩
        subst he
        obtain ⟨d, hd⟩ : ∃ d, d = d2 := ⟨_, rfl⟩
        subst hd
        clear z2 z3
        go_wp2_with fail
        go_loopw [4, 8] (fun s i wr => s = .slice e l5.length d ∧ i = .int .i64 0 ∧ Hid (wr.ownsRow 0 5 1 (.slice e l5.length d) l5.length (bvs l5) ∧ Upd (fun _ => False) w1 wr ∧ (∀ g, blk e = some g → w1.heap.size ≤ g))) (fun _ _ _ => 0)
        case atStart => exact ⟨rfl, rfl, HI⟩
        case round =>
          clear HI
          obtain ⟨rfl, rfl, HI⟩ := hrel
          obtain ⟨z0, z1, z2, z3, z4⟩ := root_cells (HR.out _ HI.out.2.1)
          clear z0 z1 z2
          go_wp2_with fail
          refine (refInt_any e d l5 k _ (Vw.of_own HI.out.1) (by omega)).mono ?_
          rintro ee v2 ⟨e2, d2, rfl, hown, hU, hf, hnil⟩
          have hU2 := HI.out.2.1.trans hU
          have hb : ∀ g, blk e2 = some g → w1.heap.size ≤ g := fun g hg => by have := hf g hg; have := HI.out.2.1.size; omega
          have hl6 : (l5 ++ i4 k).length ≤ 70012 := by rw [List.length_append, i4_length]; omega
          generalize hL : l5 ++ i4 k = l6 at *
          have Hl6 := Lib.hid hL
          clear HI
          have HI := Lib.hid (And.intro hown (And.intro hU2 hb))
          clear hL hown hU hf hnil hU2 hb
          obtain ⟨e, he⟩ : ∃ e, e = e2 := ⟨_, rfl⟩
          subst he
          obtain ⟨d, hd⟩ : ∃ d, d = d2 := ⟨_, rfl⟩
          subst hd
          have hfin : LL = l6 := by rw [HD.out, ← Hl6.out, ← Hl5.out, ← Hl4.out, HLk.out, ← Hl2.out, ← Hl1.out]
          subst hfin
          have hzz := HU.out.size
          have HZZ := Lib.hid (And.intro (Vw.of_own HI.out.1) (And.intro (fun g (hg : blk e = some g) => And.intro (Nat.le_trans hzz (HI.out.2.2 g hg)) (HI.out.1.lt g ((own_blk _ _ _).trans hg)).2) (HU.out.trans HI.out.2.1)))
          clear HI z3 z4 hzz
          go_wp2_with fail
          go_ret2
          exact ⟨e, d, rfl, HZZ.out⟩
end Go.Proofs.YtccejkikphpnfaaGreatDoor

