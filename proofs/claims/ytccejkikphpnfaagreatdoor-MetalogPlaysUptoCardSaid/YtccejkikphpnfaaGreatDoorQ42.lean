
/- The reference's PackRoot in general. -/
import Derived.Test.YtccejkikphpnfaaGreatDoorQ41
import Derived.Test.YtccejkikphpnfaaGreatDoorQ38
namespace Go.Proofs.YtccejkikphpnfaaGreatDoor
set_option linter.unusedSimpArgs false
set_option linter.unusedVariables false
set_option maxRecDepth 100000
open Go.ChangeShapes Go.WideShapes Go.ChangeAt Go.RowKit
set_option maxHeartbeats 32000000 in
theorem r21PackRoot_gen (r : Rt) (w : World) (h : RtIn w r) : Calls Tryz.prog 12 #[.agg (rtA r)] w (Packed w (rootGR r) (rootGE r)) := by
 have hU1 := Upd.alloc (fun _ => False) w (.cells (rtA r) 26)
 have hrow := heap_alloc_new w (.cells (rtA r) 26)
 have hv1 := h.upd hU1
 have hmr := rootMay_any r (w.alloc (.cells (rtA r) 26)) hv1
 have hsz := rootB_sz r
 have HRR : Hid (rootGR r = if rootB r then rootG r else []) := Lib.hid rfl
 have HRE : Hid (rootGE r = if rootB r then 0 else 5) := Lib.hid rfl
 have HD : Hid (rootG r = [1] ++ i4 r.p ++ i4 r.ks.length ++ kysB r.ks ++ i4 r.ms.length ++ r.ms.flatMap mkB ++ i4 r.ns.length ++ r.ns.flatMap nmB ++ i4 r.k) := Lib.hid rfl
 generalize rootGR r = RL at *
 generalize rootGE r = RE at *
 generalize rootG r = LL at *
 generalize rootB r = R at *
 obtain ⟨p, a, c, ks, ma, mc, ms, na, nc, ns, k⟩ := r
 unfold rtA at *
 dsimp only at *
 have HP := Lib.hid (And.intro hU1 (And.intro hrow hv1))
 have HSZ := Lib.hid hsz
 clear hU1 hrow hv1 h hsz
 go_enter Tryz.func12, Tryz.ntmps12
 go_upto_region 1 with (fail)
 obtain ⟨hU1, hrow, hv1⟩ := HP.out
 generalize w.alloc (.cells #[.int .i64 p, .slice a ks.length c, .slice ma ms.length mc, .slice na ns.length nc, .int .i64 k] 26) = y0 at *
 obtain ⟨RB, hRB⟩ : ∃ B, w.heap.size = B := ⟨_, rfl⟩
 rw [hRB] at hrow ⊢
 have HB : Hid (w.heap.size = RB) := Lib.hid hRB
 have HU0 := Lib.hid hU1
 have HR0 := Lib.hid hrow
 have hz0 := lt_of_heap hrow
 have HZ0 := Lib.hid hz0
 clear hRB hU1 hz0
 have hrow' := hrow
 clear hrow
 have HV0 := Lib.hid hv1
 clear hv1 HP
 go_wp2_with (refine wpList_load_row rfl 26 (.tmp 1) rfl RB #[.int .i64 p, .slice a ks.length c, .slice ma ms.length mc, .slice na ns.length nc, .int .i64 k] 26 (0, 0) _ rfl hrow' Tryz.underlying26 rfl (by rw [infoRoot]; rfl) ?_)
 refine hmr.mono ?_
 rintro e w1 ⟨rfl, hU2⟩
 have HR : Hid (∀ w', Upd (fun _ => False) w1 w' → w'.heap[RB]? = some (.cells #[.int .i64 p, .slice a ks.length c, .slice ma ms.length mc, .slice na ns.length nc, .int .i64 k] 26)) := Lib.hid (fun w' hU => (hU.block RB (Nat.lt_of_lt_of_le HZ0.out hU2.size) (fun h => h)).trans ((hU2.block RB HZ0.out (fun h => h)).trans HR0.out))
 have HCC : Hid (∀ w', Upd (fun _ => False) w1 w' → w'.cell? ⟨RB, 0, none⟩ = some (.int .i64 p) ∧ w'.cell? ⟨RB, 1, none⟩ = some (.slice a ks.length c) ∧ w'.cell? ⟨RB, 2, none⟩ = some (.slice ma ms.length mc) ∧ w'.cell? ⟨RB, 3, none⟩ = some (.slice na ns.length nc) ∧ w'.cell? ⟨RB, 4, none⟩ = some (.int .i64 k)) := Lib.hid (fun w' hU => row5 (HR.out w' hU))
 have HI0 : Hid (∀ w', Upd (fun _ => False) w1 w' → RtIn w' ⟨p, a, c, ks, ma, mc, ms, na, nc, ns, k⟩) := Lib.hid (fun w' hU => HV0.out.upd (hU2.trans hU))
 have HU := Lib.hid (HU0.out.trans hU2)
 clear hmr hU2 HU0 HR0 HZ0 hrow' HV0
 cases R with
 | false =>
  have hRL := HRR.out
  have hRE := HRE.out
  simp only [Bool.false_eq_true, if_false] at hRL hRE
  subst hRL hRE
  go_wp2_with fail
  go_ret2
  exact ⟨none, 0, rfl, Vw.nl _ _, (fun g h => by cases h), HU.out⟩
 | true =>
 obtain ⟨hn, hA, hB⟩ := HSZ.out rfl
 have hRL := HRR.out
 have hRE := HRE.out
 simp only [if_true] at hRL hRE
 subst hRL hRE
 clear HRR HRE HSZ
 generalize hAA : (ms.flatMap mkB).length = A at *
 generalize hBB : (ns.flatMap nmB).length = BB at *
 have HAA := Lib.hid hAA
 have HBB := Lib.hid hBB
 clear hAA hBB
 obtain ⟨i0, hi, hz0, hz1, hz2⟩ := info_parts infoU8
 have HIU := Lib.hid (And.intro hi (And.intro hz0 (And.intro hz1 hz2)))
 clear hi hz0 hz1 hz2
 have hcm := (HI0.out w1 (Upd.refl _ _)).mv.cap
 have hlm := (HI0.out w1 (Upd.refl _ _)).mv.le
 have hcn := (HI0.out w1 (Upd.refl _ _)).nv.cap
 have hln := (HI0.out w1 (Upd.refl _ _)).nv.le
 unfold maxLen at hcm hcn
 dsimp only at hcm hlm hcn hln
 go_upto_region 3 with (fail)
 have hq := HCC.out w1.drew (Upd.drew _ _)
 refine wp_region_plan_last [([1, 2, 4, 5, 6], 0), ([], 3), ([], 7)] [8] (fun w' => w'.cell? ⟨RB, 0, none⟩ = some (.int .i64 p) ∧ w'.cell? ⟨RB, 1, none⟩ = some (.slice a ks.length c)) (by kernel_rfl) (by kernel_rfl) ⟨hq.1, hq.2.1⟩ ?_
 clear hq
 iterate 5
  first | refine plan_skip rfl rfl ?_ | (refine plan_take (v := ?_) rfl rfl (fun w' hS => ?_) ?_; rotate_left; · (go_simp; try with_reducible rfl))
  simp only [putL]
 refine plan_act rfl (fun KK hKK => ?_)
 have hI : Rb w1 (w1.drew.alloc (.cells #[.int .u8 1] 5)) (some ⟨w1.drew.heap.size, 0, none⟩) 1 [1] := Rb.lit w1 w1.drew (Upd.drew _ _) 1
 have hrb := rb_int hI p (by simp)
 simp only [List.length_cons, List.length_nil, Nat.zero_add] at hrb
 have hq := HCC.out _ hI.2.1
 have hq0 := And.intro hq.1 hq.2.1
 clear hq hI
 go_wp2_with fail
 refine hKK.out _ _ (.inr hq0) ?_
 clear hq0 hKK
 refine plan_act rfl (fun KK hKK => ?_)
 go_wp2_with fail
 refine hrb.mono ?_
 rintro ee v1 ⟨e1, d1, rfl, hI⟩
 have hlm1 : ([1] ++ i4 p).length ≤ 5 := by rw [List.length_append, i4_length]; simp
 generalize hL : [1] ++ i4 p = m1 at *
 have Hm1 := Lib.hid hL
 clear hL hrb
 have HI := Lib.hid hI
 clear hI
 have hq := HCC.out _ HI.out.2.1
 have hq0 := And.intro hq.1 hq.2.1
 clear hq
 go_wp2_with fail
 refine hKK.out _ _ (.inr hq0) ?_
 clear hq0 hKK
 refine plan_act rfl (fun KK hKK => ?_)
 go_wp2_with fail
 refine (rb_int HI.out (ks.length : Int) (by omega)).mono ?_
 rintro ee v2 ⟨e2, d2, rfl, hI⟩
 have hlm2 : (m1 ++ i4 (ks.length : Int)).length ≤ 9 := by rw [List.length_append, i4_length]; omega
 generalize hL : m1 ++ i4 (ks.length : Int) = m2 at *
 have Hm2 := Lib.hid hL
 clear HI hL
 have HI := Lib.hid hI
 clear hI
 have hq := HCC.out _ HI.out.2.1
 have hq0 := And.intro hq.1 hq.2.1
 clear hq
 go_wp2_with fail
 refine hKK.out _ _ (.inr hq0) ?_
 clear hq0 hKK
 iterate 1
  first | refine plan_lskip rfl rfl ?_ | (refine plan_last (v := ?_) rfl rfl (fun w' hS => ?_) ?_; rotate_left; · (go_simp; try with_reducible rfl))
  simp only [putL]
 refine plan_end ?_
 go_wp2_with fail
 go_loopw [4, 5] (fun s i wr => ∃ (j : Nat) (e : Option Addr) (d : Nat) (L : List UInt8), Hid (L = m2 ++ kysB (ks.take j)) ∧ j ≤ ks.length ∧ s = .slice e L.length d ∧ i = .int .i64 (j : Int) ∧ Hid (Rb w1 wr e d L)) (fun _ i _ => ks.length - (intOf i).toNat)
 case atStart => exact ⟨0, e2, d2, m2, Lib.hid (by simp [kysB]), Nat.zero_le _, rfl, rfl, HI⟩
 case round =>
  clear HI
  obtain ⟨j, e, d, L, HLj, hj, rfl, rfl, HI⟩ := hrel
  have hlL : L.length ≤ 70000 := by have := kysB_le ks j hn; rw [HLj.out, List.length_append]; omega
  obtain ⟨z0, z1, z2, z3, z4⟩ := HCC.out _ HI.out.2.1
  clear z0 z3 z4
  by_cases hlt : j < ks.length
  ·have hI : (j : Int) < (ks.length : Int) := by omega
   obtain ⟨b, o, hb, hcell⟩ := ky_at (HI0.out _ HI.out.2.1).cv (show 0 < ks.length by omega)
   dsimp only at hb hcell
   subst hb
   have hrg : wr.rangeAt b (o + j * 32) (bvs ks[j].b) := hcell j hlt
   have hk32 := ks[j].h
   have hsucc : L ++ ks[j].b = m2 ++ kysB (ks.take (j + 1)) := by rw [HLj.out, List.append_assoc, kysB_succ ks j hlt]
   generalize ks[j].b = kb at *
   have hsrc := key_src hk32 hrg
   have hown := HI.out.1
   have HSU := Lib.hid hsucc
   clear hcell hsucc hrg
   have hi := HIU.out.1
   have hz0 := HIU.out.2.1
   have hz1 := HIU.out.2.2.1
   have hz2 := HIU.out.2.2.2
   go_upto_region 7 with (fail)
   go_wp2_with (at_builtin; refine wpList_app _ rfl (.tmp 27) (.tmp 32) 33 33 rfl 5 i0 (.int .u8 0) 1 1 Tryz.underlying33 hi hz0 hz1 hz2 rfl e L.length d (bvs L) rfl hown (.slice (some ⟨b, o + j * 32, none⟩) 32 32) 32 (bvs kb) rfl hsrc ?_ ?_ ?_)
   ·unfold maxLen; omega
   ·omega
   clear hi hz0 hz1 hz2
   intro a3 c3 w3 hown3 hg3 hat3 hnil3
   have HI3 := Lib.hid (HI.out.app hk32 hown3 hg3 hat3)
   have hlen3 : L.length + 32 = (L ++ kb).length := by rw [List.length_append, hk32]
   clear hown3 hg3 hat3 hnil3 hsrc hown z1 z2
   go_wp2_with fail
   go_roundw
   case rel => exact ⟨j + 1, a3, c3, L ++ kb, Lib.hid HSU.out, by omega, by rw [hlen3], by first | rfl | go_num, HI3⟩
   case measure => simp [intOf]; omega
  ·obtain rfl : j = ks.length := by omega
   have HLL := HLj.out
   rw [List.take_length] at HLL
   have HLk := Lib.hid HLL
   have hI : ¬ (ks.length : Int) < (ks.length : Int) := by omega
   clear HLj HLL hlt hj
   go_wp2_with fail
   clear z1 hI
   refine (rb_int HI.out (ms.length : Int) (by omega)).mono ?_
   rintro ee v3 ⟨e3, d3, rfl, hI⟩
   have hlm3 : (L ++ i4 (ms.length : Int)).length ≤ 70004 := by rw [List.length_append, i4_length]; omega
   generalize hL : L ++ i4 (ms.length : Int) = m3 at *
   have Hm3 := Lib.hid hL
   clear HI hL
   have HI := Lib.hid hI
   clear hI
   clear z2
   go_wp2_with fail
   go_loopw [4, 6] (fun s i wr => ∃ (j : Nat) (e : Option Addr) (d : Nat) (L : List UInt8), Hid (L = m3 ++ (ms.take j).flatMap mkB) ∧ j ≤ ms.length ∧ s = .slice e L.length d ∧ i = .int .i64 (j : Int) ∧ Hid (Rb w1 wr e d L)) (fun _ i _ => ms.length - (intOf i).toNat)
   case atStart => exact ⟨0, e3, d3, m3, Lib.hid (by simp), Nat.zero_le _, rfl, rfl, HI⟩
   case round =>
    clear HI
    obtain ⟨j, e, d, L, HLj, hj, rfl, rfl, HI⟩ := hrel
    obtain ⟨z0, z1, z2, z3, z4⟩ := HCC.out _ HI.out.2.1
    clear z0 z1 z4
    by_cases hlt : j < ms.length
    ·have hI : (j : Int) < (ms.length : Int) := by omega
     obtain ⟨b, o, hb, _⟩ := (HI0.out w1 (Upd.refl _ _)).mv.at (show 0 < ms.length by omega) (by decide)
     dsimp only at hb
     subst hb
     have HQ : Hid (∀ w', Upd (fun _ => False) w1 w' → w'.cell? ⟨RB, 2, none⟩ = some (.slice (some ⟨b, o, none⟩) ms.length mc) ∧ w'.cell? ⟨b, o + j * 2, none⟩ = some (.int .i64 ms[j].old) ∧ w'.cell? ⟨b, o + j * 2 + 1, none⟩ = some (.slice ms[j].a ms[j].new.length ms[j].c)) := Lib.hid (fun w' hU => by
      obtain ⟨b', o', hb', hcell⟩ := (HI0.out w' hU).mv.at (show 0 < ms.length by omega) (by decide)
      cases hb'
      exact ⟨(HCC.out w' hU).2.2.1, hcell (j * 2 + 0) _ (mk_get ms j 0 hlt (by decide)), hcell (j * 2 + 1) _ (mk_get ms j 1 hlt (by decide))⟩)
     have HMX : Hid (∀ w', Upd (fun _ => False) w1 w' → MkIn w' ms[j]) := Lib.hid (fun w' hU => (HI0.out w' hU).me ms[j] (List.getElem_mem hlt))
     have hsucc := flatMap_succ mkB ms j hlt
     have hlen : (L ++ mkB ms[j]).length ≤ 18000000 := by
      have h1 := flat_take_le mkB ms (j + 1)
      rw [HAA.out] at h1
      rw [HLj.out, List.append_assoc, hsucc, List.length_append]
      omega
     rw [List.length_append, mkB_len] at hlen
     have HSU := Lib.hid hsucc
     clear hsucc z2 z3
     generalize ms[j] = x at *
     obtain ⟨xo, xn, xa, xc⟩ := x
     dsimp only at *
     obtain ⟨z2, z5, z6⟩ := HQ.out _ HI.out.2.1
     go_upto_region 12 with (fail)
     clear z2 z5 z6 hI
     have hq0 := HQ.out _ (HI.out.2.1.trans (Upd.drew _ _))
     refine wp_region_plan_last [([0, 1, 2, 3, 4, 5, 6, 8, 9, 10, 11, 12, 13, 14], 7), ([], 15)] [16] (fun w' => w'.cell? ⟨RB, 2, none⟩ = some (.slice (some ⟨b, o, none⟩) ms.length mc) ∧ w'.cell? ⟨b, o + j * 2, none⟩ = some (.int .i64 xo) ∧ w'.cell? ⟨b, o + j * 2 + 1, none⟩ = some (.slice xa xn.length xc)) (by kernel_rfl) (by kernel_rfl) hq0 ?_
     clear hq0
     have hI := HI.out.other (Upd.drew _ _)
     clear HI
     have HI := Lib.hid hI
     clear hI
     iterate 14
      first | refine plan_skip rfl rfl ?_ | (refine plan_take (v := ?_) rfl rfl (fun w' hS => ?_) ?_; rotate_left; · (go_simp; try with_reducible rfl))
      simp only [putL]
     refine plan_act rfl (fun KK hKK => ?_)
     go_wp2_with fail
     refine (rb_int HI.out xo (by omega)).mono ?_
     rintro ee v4 ⟨e4, d4, rfl, hI⟩
     have hlm4 : (L ++ i4 xo).length ≤ L.length + 4 := by rw [List.length_append, i4_length]; omega
     generalize hL : L ++ i4 xo = m4 at *
     have Hm4 := Lib.hid hL
     clear HI hL
     have HI := Lib.hid hI
     clear hI
     have hq0 := HQ.out _ HI.out.2.1
     go_wp2_with fail
     refine hKK.out _ _ (.inr hq0) ?_
     clear hq0 hKK
     refine plan_act rfl (fun KK hKK => ?_)
     go_wp2_with fail
     refine (rb_int HI.out (xn.length : Int) (by omega)).mono ?_
     rintro ee v5 ⟨e5, d5, rfl, hI⟩
     have hlm5 : (m4 ++ i4 (xn.length : Int)).length ≤ L.length + 8 := by rw [List.length_append, i4_length]; omega
     generalize hL : m4 ++ i4 (xn.length : Int) = m5 at *
     have Hm5 := Lib.hid hL
     clear HI hL
     have HI := Lib.hid hI
     clear hI
     have hq0 := HQ.out _ HI.out.2.1
     go_wp2_with fail
     refine hKK.out _ _ (.inr hq0) ?_
     clear hq0 hKK
     iterate 1
      first | refine plan_lskip rfl rfl ?_ | (refine plan_last (v := ?_) rfl rfl (fun w' hS => ?_) ?_; rotate_left; · (go_simp; try with_reducible rfl))
      simp only [putL]
     refine plan_end ?_
     go_wp2_with fail
     have hcx := (HMX.out _ HI.out.2.1).cap
     have hlx := (HMX.out _ HI.out.2.1).le
     unfold maxLen at hcx
     dsimp only at hcx hlx
     go_loopw [4, 7] (fun s i wz => ∃ (q : Nat) (e : Option Addr) (d : Nat) (M : List UInt8), Hid (M = m5 ++ (xn.take q).flatMap i4) ∧ q ≤ xn.length ∧ s = .slice e M.length d ∧ i = .int .i64 (q : Int) ∧ Hid (Rb w1 wz e d M)) (fun _ i _ => xn.length - (intOf i).toNat)
     case atStart => exact ⟨0, e5, d5, m5, Lib.hid (by simp), Nat.zero_le _, rfl, rfl, HI⟩
     case round =>
      clear HI
      obtain ⟨q, e, d, M, HMq, hq, rfl, rfl, HI⟩ := hrel
      have hlM : M.length ≤ 18000000 := by
       have h1 := numsB_len (xn.take q)
       unfold numsB at h1
       rw [List.length_append, i4_length, List.length_take] at h1
       rw [HMq.out, List.length_append]
       omega
      obtain ⟨z2, z5, z6⟩ := HQ.out _ HI.out.2.1
      clear z5
      by_cases hlt2 : q < xn.length
      ·have hI : (q : Int) < (xn.length : Int) := by omega
       obtain ⟨b2, o2, hb2, hcell⟩ := (show Vw _ xa xn.length xc 1 (xn.map iv) from HMX.out _ HI.out.2.1).at (by omega) (by decide)
       subst hb2
       have qv := hcell q _ (iv_at xn q hlt2)
       have hs2 := flatMap_succ i4 xn q hlt2
       clear hcell
       generalize xn[q] = v at *
       have HS2 := Lib.hid hs2
       clear hs2
       go_wp2_with fail
       refine (rb_int HI.out v (by omega)).mono ?_
       rintro ee v6 ⟨e6, d6, rfl, hI⟩
       have hlm6 : (M ++ i4 v).length ≤ M.length + 4 := by rw [List.length_append, i4_length]; omega
       generalize hL : M ++ i4 v = m6 at *
       have Hm6 := Lib.hid hL
       clear HI hL
       have HI := Lib.hid hI
       clear hI
       have HN : Hid (m6 = m5 ++ (xn.take (q + 1)).flatMap i4) := Lib.hid (by rw [← Hm6.out, HMq.out, List.append_assoc, HS2.out])
       clear z2 z6 qv
       go_wp2_with fail
       go_roundw
       case rel => exact ⟨q + 1, e6, d6, m6, HN, by omega, rfl, by first | rfl | go_num, HI⟩
       case measure => simp [intOf]; omega
      ·obtain rfl : q = xn.length := by omega
       have hI : ¬ (xn.length : Int) < (xn.length : Int) := by omega
       have HN : Hid (M = m3 ++ (ms.take (j + 1)).flatMap mkB) := Lib.hid (by
        rw [HMq.out, List.take_length, ← HSU.out, ← Hm5.out, ← Hm4.out, HLj.out]
        simp [mkB, numsB])
       clear hlt2 hq
       go_wp2_with fail
       clear z2 z6 hI
       go_wp2_with fail
       go_roundw
       case rel => exact ⟨j + 1, e, d, M, HN, by omega, rfl, by first | rfl | go_num, HI⟩
       case measure => simp [intOf]; omega
    ·obtain rfl : j = ms.length := by omega
     have HLL := HLj.out
     rw [List.take_length] at HLL
     have hlL : L.length ≤ 18000000 := by rw [HLL, List.length_append, HAA.out]; omega
     have HLm := Lib.hid HLL
     have hI : ¬ (ms.length : Int) < (ms.length : Int) := by omega
     clear HLj HLL hlt hj
     go_wp2_with fail
     clear z2 hI
     refine (rb_int HI.out (ns.length : Int) (by omega)).mono ?_
     rintro ee v7 ⟨e7, d7, rfl, hI⟩
     have hlm7 : (L ++ i4 (ns.length : Int)).length ≤ 18000004 := by rw [List.length_append, i4_length]; omega
     generalize hL : L ++ i4 (ns.length : Int) = m7 at *
     have Hm7 := Lib.hid hL
     clear HI hL
     have HI := Lib.hid hI
     clear hI
     clear z3
     go_wp2_with fail
     go_loopw [4, 8] (fun s i wr => ∃ (j : Nat) (e : Option Addr) (d : Nat) (L : List UInt8), Hid (L = m7 ++ (ns.take j).flatMap nmB) ∧ j ≤ ns.length ∧ s = .slice e L.length d ∧ i = .int .i64 (j : Int) ∧ Hid (Rb w1 wr e d L)) (fun _ i _ => ns.length - (intOf i).toNat)
     case atStart => exact ⟨0, e7, d7, m7, Lib.hid (by simp), Nat.zero_le _, rfl, rfl, HI⟩
     case round =>
      clear HI
      obtain ⟨j, e, d, L, HLj, hj, rfl, rfl, HI⟩ := hrel
      obtain ⟨z0, z1, z2, z3, z4⟩ := HCC.out _ HI.out.2.1
      clear z0 z1 z2
      by_cases hlt : j < ns.length
      ·have hI : (j : Int) < (ns.length : Int) := by omega
       obtain ⟨b, o, hb, _⟩ := (HI0.out w1 (Upd.refl _ _)).nv.at (show 0 < ns.length by omega) (by decide)
       dsimp only at hb
       subst hb
       have HQ : Hid (∀ w', Upd (fun _ => False) w1 w' → w'.cell? ⟨RB, 3, none⟩ = some (.slice (some ⟨b, o, none⟩) ns.length nc) ∧ w'.cell? ⟨b, o + j * 2, none⟩ = some (.string (str ns[j].name)) ∧ w'.cell? ⟨b, o + j * 2 + 1, none⟩ = some (.int .i64 ns[j].com)) := Lib.hid (fun w' hU => by
        obtain ⟨b', o', hb', hcell⟩ := (HI0.out w' hU).nv.at (show 0 < ns.length by omega) (by decide)
        cases hb'
        exact ⟨(HCC.out w' hU).2.2.2.1, hcell (j * 2 + 0) _ (nm_get ns j 0 hlt (by decide)), hcell (j * 2 + 1) _ (nm_get ns j 1 hlt (by decide))⟩)
       have hsucc := flatMap_succ nmB ns j hlt
       have hlen : (L ++ nmB ns[j]).length ≤ 19000000 := by
        have h1 := flat_take_le nmB ns (j + 1)
        rw [HBB.out] at h1
        rw [HLj.out, List.append_assoc, hsucc, List.length_append]
        omega
       rw [List.length_append, nmB_len] at hlen
       have HSU := Lib.hid hsucc
       clear hsucc z3 z4
       generalize ns[j] = x at *
       obtain ⟨xn, xc⟩ := x
       dsimp only at *
       obtain ⟨z2, z5, z6⟩ := HQ.out _ HI.out.2.1
       go_upto_region 21 with (fail)
       clear z2 z5 z6 hI
       have hq0 := HQ.out _ (HI.out.2.1.trans (Upd.drew _ _))
       refine wp_region_plan_last [([0, 1, 2, 3, 4, 5, 6, 8, 9, 10, 11, 12, 13], 7), ([], 14)] [15] (fun w' => w'.cell? ⟨RB, 3, none⟩ = some (.slice (some ⟨b, o, none⟩) ns.length nc) ∧ w'.cell? ⟨b, o + j * 2, none⟩ = some (.string (str xn)) ∧ w'.cell? ⟨b, o + j * 2 + 1, none⟩ = some (.int .i64 xc)) (by kernel_rfl) (by kernel_rfl) hq0 ?_
       clear hq0
       have hI := HI.out.other (Upd.drew _ _)
       clear HI
       have HI := Lib.hid hI
       clear hI
       iterate 13
        first | refine plan_skip rfl rfl ?_ | (refine plan_take (v := ?_) rfl rfl (fun w' hS => ?_) ?_; rotate_left; · (go_simp; try with_reducible rfl))
        simp only [putL]
       refine plan_act rfl (fun KK hKK => ?_)
       go_wp2_with fail
       refine (rb_text HI.out xn (by omega) (by omega)).mono ?_
       rintro ee v8 ⟨e8, d8, rfl, hI⟩
       have hlm8 : (L ++ tx xn).length ≤ L.length + 4 + xn.length := by rw [List.length_append, tx_len]; omega
       generalize hL : L ++ tx xn = m8 at *
       have Hm8 := Lib.hid hL
       clear HI hL
       have HI := Lib.hid hI
       clear hI
       have hq0 := HQ.out _ HI.out.2.1
       go_wp2_with fail
       refine hKK.out _ _ (.inr hq0) ?_
       clear hq0 hKK
       refine plan_act rfl (fun KK hKK => ?_)
       go_wp2_with fail
       refine (rb_int HI.out xc (by omega)).mono ?_
       rintro ee v9 ⟨e9, d9, rfl, hI⟩
       have hlm9 : (m8 ++ i4 xc).length ≤ L.length + 8 + xn.length := by rw [List.length_append, i4_length]; omega
       generalize hL : m8 ++ i4 xc = m9 at *
       have Hm9 := Lib.hid hL
       clear HI hL
       have HI := Lib.hid hI
       clear hI
       have hq0 := HQ.out _ HI.out.2.1
       go_wp2_with fail
       refine hKK.out _ _ (.inr hq0) ?_
       clear hq0 hKK
       iterate 1
        first | refine plan_lskip rfl rfl ?_ | (refine plan_last (v := ?_) rfl rfl (fun w' hS => ?_) ?_; rotate_left; · (go_simp; try with_reducible rfl))
        simp only [putL]
       refine plan_end ?_
       have HN : Hid (m9 = m7 ++ (ns.take (j + 1)).flatMap nmB) := Lib.hid (by
        rw [← HSU.out, ← Hm9.out, ← Hm8.out, HLj.out]
        simp [nmB])
       go_wp2_with fail
       go_roundw
       case rel => exact ⟨j + 1, e9, d9, m9, HN, by omega, rfl, by first | rfl | go_num, HI⟩
       case measure => simp [intOf]; omega
      ·obtain rfl : j = ns.length := by omega
       have HLL := HLj.out
       rw [List.take_length] at HLL
       have hlL : L.length ≤ 19000000 := by rw [HLL, List.length_append, HBB.out]; omega
       have HLn := Lib.hid HLL
       have hI : ¬ (ns.length : Int) < (ns.length : Int) := by omega
       clear HLj HLL hlt hj
       go_wp2_with fail
       clear z3 hI
       refine (rb_int HI.out k (by omega)).mono ?_
       rintro ee v10 ⟨e10, d10, rfl, hI⟩
       have hlm10 : (L ++ i4 k).length ≤ 19000008 := by rw [List.length_append, i4_length]; omega
       generalize hL : L ++ i4 k = m10 at *
       have Hm10 := Lib.hid hL
       clear HI hL
       have HI := Lib.hid hI
       clear hI
       have hLL : RL = m10 := by rw [HD.out, ← Hm10.out, HLn.out, ← Hm7.out, HLm.out, ← Hm3.out, HLk.out, ← Hm2.out, ← Hm1.out]
       subst hLL
       have HF := Lib.hid (HI.out.packed HU.out)
       clear z4 HI
       go_wp2_with fail
       go_ret2
       exact ⟨e10, d10, rfl, HF.out⟩
end Go.Proofs.YtccejkikphpnfaaGreatDoor
