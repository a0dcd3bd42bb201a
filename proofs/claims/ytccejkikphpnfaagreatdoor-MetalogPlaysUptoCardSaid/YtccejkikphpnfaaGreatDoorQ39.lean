
/- The reference's PackWait. -/
import Derived.Test.YtccejkikphpnfaaGreatDoorQ38
namespace Go.Proofs.YtccejkikphpnfaaGreatDoor
set_option linter.unusedSimpArgs false
set_option linter.unusedVariables false
set_option maxRecDepth 100000
open Go.ChangeShapes Go.WideShapes Go.ChangeAt Go.RowKit
theorem rb_int2 {w1 w : World} {e : Option Addr} {d : Nat} {l : List UInt8} (h : Rb w1 w e d l) (v : Int) (hl : l.length ≤ 100000000) :
  Calls Tryz.prog 50 #[.slice e l.length d, .int .i64 v] w fun en w' => ∃ e' d', en = .returned (.slice e' (l ++ i4 v).length d') ∧ Rb w1 w' e' d' (l ++ i4 v) ∧ Upd (fun _ => False) w w' := by
 have hh := refInt_any e d l v w h.vw hl
 refine hh.mono (fun en w' h' => ?_)
 obtain ⟨a, c, rfl, hown, hU, hf, _⟩ := h'
 exact ⟨a, c, rfl, ⟨hown, h.2.1.trans hU, fun g hg => Nat.le_trans h.2.1.size (hf g hg)⟩, hU⟩
theorem rb_bool2 {w1 w : World} {e : Option Addr} {d : Nat} {l : List UInt8} (h : Rb w1 w e d l) (b : Bool) (hl : l.length ≤ 100000000) :
  Calls Tryz.prog 56 #[.slice e l.length d, .bool b] w fun en w' => ∃ e' d', en = .returned (.slice e' (l ++ b1 b).length d') ∧ Rb w1 w' e' d' (l ++ b1 b) ∧ Upd (fun _ => False) w w' := by
 have hh := refBool_any e d l b w h.vw hl
 refine hh.mono (fun en w' h' => ?_)
 obtain ⟨a, c, rfl, hown, hU, hf, _⟩ := h'
 exact ⟨a, c, rfl, ⟨hown, h.2.1.trans hU, fun g hg => Nat.le_trans h.2.1.size (hf g hg)⟩, hU⟩
theorem rb_text2 {w1 w : World} {e : Option Addr} {d : Nat} {l : List UInt8} (h : Rb w1 w e d l) (s : List UInt8) (hl : l.length ≤ 100000000) (hs : s.length ≤ 100000000) :
  Calls Tryz.prog 51 #[.slice e l.length d, .string (str s)] w fun en w' => ∃ e' d', en = .returned (.slice e' (l ++ tx s).length d') ∧ Rb w1 w' e' d' (l ++ tx s) ∧ Upd (fun _ => False) w w' := by
 have hh := refText_any e d l (str s) w h.vw hl (by rw [str_size]; exact hs)
 rw [t4_str] at hh
 refine hh.mono (fun en w' h' => ?_)
 obtain ⟨a, c, rfl, hown, hU, hf, _⟩ := h'
 exact ⟨a, c, rfl, ⟨hown, h.2.1.trans hU, fun g hg => Nat.le_trans h.2.1.size (hf g hg)⟩, hU⟩
theorem infoPend7 : (Tryz.prog.info? 30).map (·.size) = some 7 := by kernel_rfl
set_option maxHeartbeats 32000000 in
theorem r21PackWait_gen (p : Wt) (w : World) (h : WtIn w p) (hmax : (waitG p).length ≤ 80000000) : Calls Tryz.prog 14 #[.agg (wtA p)] w (Packed w (waitR p) (waitE p)) := by
 have hU1 := Upd.alloc (fun _ => False) w (.cells (wtA p) 30)
 have hrow := heap_alloc_new w (.cells (wtA p) 30)
 have hv1 := h.upd hU1
 have hmr := waitMay_any p (w.alloc (.cells (wtA p) 30)) hv1
 have HRR : Hid (waitR p = if waitB p then waitG p else []) := Lib.hid rfl
 have HRE : Hid (waitE p = if waitB p then 0 else 5) := Lib.hid rfl
 have HD : Hid (waitG p = [3] ++ b1 p.re ++ i4 p.src ++ i4 p.dst ++ i4 p.com ++ i4 p.ss.length ++ p.ss.flatMap stB ++ i4 p.cs.length ++ p.cs.flatMap clB) := Lib.hid rfl
 rw [waitG_len] at hmax
 generalize waitR p = RL at *
 generalize waitE p = RE at *
 generalize waitG p = LL at *
 generalize waitB p = R at *
 obtain ⟨on, re, src, dst, sa, sc, ss, com, ca, cc, cs⟩ := p
 unfold wtA at *
 dsimp only at *
 have HP := Lib.hid (And.intro hU1 (And.intro hrow hv1))
 clear hU1 hrow hv1 h
 generalize hAA : (ss.flatMap stB).length = A at *
 generalize hBB : (cs.flatMap clB).length = BB at *
 have HAA := Lib.hid hAA
 have HBB := Lib.hid hBB
 clear hAA hBB
 go_enter Tryz.func14, Tryz.ntmps14
 go_upto_region 1 with (fail)
 obtain ⟨hU1, hrow, hv1⟩ := HP.out
 generalize w.alloc (.cells #[.bool on, .bool re, .int .i64 src, .int .i64 dst, .slice sa ss.length sc, .int .i64 com, .slice ca cs.length cc] 30) = y0 at *
 obtain ⟨RB, hRB⟩ : ∃ B, w.heap.size = B := ⟨_, rfl⟩
 rw [hRB] at hrow ⊢
 have HB : Hid (w.heap.size = RB) := Lib.hid hRB
 have HU0 := Lib.hid hU1
 have HR0 := Lib.hid hrow
 have hz0 := lt_of_heap hrow
 have HZ0 := Lib.hid hz0
 clear hRB hU1 hz0
 have hrow' := hrow
 clear hrow
 have HV0 := Lib.hid hv1
 clear hv1 HP
 go_wp2_with (refine wpList_load_row rfl 30 (.tmp 1) rfl RB #[.bool on, .bool re, .int .i64 src, .int .i64 dst, .slice sa ss.length sc, .int .i64 com, .slice ca cs.length cc] 30 (0, 0) _ rfl hrow' Tryz.underlying30 rfl (by rw [infoPend7]; rfl) ?_)
 refine hmr.mono ?_
 rintro e w1 ⟨rfl, hU2⟩
 have HR : Hid (∀ w', Upd (fun _ => False) w1 w' → w'.heap[RB]? = some (.cells #[.bool on, .bool re, .int .i64 src, .int .i64 dst, .slice sa ss.length sc, .int .i64 com, .slice ca cs.length cc] 30)) := Lib.hid (fun w' hU => (hU.block RB (Nat.lt_of_lt_of_le HZ0.out hU2.size) (fun h => h)).trans ((hU2.block RB HZ0.out (fun h => h)).trans HR0.out))
 have HCC : Hid (∀ w', Upd (fun _ => False) w1 w' → w'.cell? ⟨RB, 0, none⟩ = some (.bool on) ∧ w'.cell? ⟨RB, 1, none⟩ = some (.bool re) ∧ w'.cell? ⟨RB, 2, none⟩ = some (.int .i64 src) ∧ w'.cell? ⟨RB, 3, none⟩ = some (.int .i64 dst) ∧ w'.cell? ⟨RB, 4, none⟩ = some (.slice sa ss.length sc) ∧ w'.cell? ⟨RB, 5, none⟩ = some (.int .i64 com) ∧ w'.cell? ⟨RB, 6, none⟩ = some (.slice ca cs.length cc)) := Lib.hid (fun w' hU => row7 (HR.out w' hU))
 have HI0 : Hid (∀ w', Upd (fun _ => False) w1 w' → WtIn w' ⟨on, re, src, dst, sa, sc, ss, com, ca, cc, cs⟩) := Lib.hid (fun w' hU => HV0.out.upd (hU2.trans hU))
 have HU := Lib.hid (HU0.out.trans hU2)
 clear hmr hU2 HU0 HR0 HZ0 hrow' HV0
 cases R with
 | false =>
  have hRL := HRR.out
  have hRE := HRE.out
  simp only [Bool.false_eq_true, if_false] at hRL hRE
  subst hRL hRE
  go_wp2_with fail
  go_ret2
  exact ⟨none, 0, rfl, Vw.nl _ _, (fun g h => by cases h), HU.out⟩
 | true =>
 have hRL := HRR.out
 have hRE := HRE.out
 simp only [if_true] at hRL hRE
 subst hRL hRE
 clear HRR HRE
 have hcm := (HI0.out w1 (Upd.refl _ _)).sv.cap
 have hlm := (HI0.out w1 (Upd.refl _ _)).sv.le
 have hcn := (HI0.out w1 (Upd.refl _ _)).cv.cap
 have hln := (HI0.out w1 (Upd.refl _ _)).cv.le
 unfold maxLen at hcm hcn
 dsimp only at hcm hlm hcn hln
 have hI3 : Rb w1 (w1.alloc (.cells #[.int .u8 3] 5)) (some ⟨w1.heap.size, 0, none⟩) 1 [3] := Rb.lit w1 w1 (Upd.refl _ _) 3
 have HI := Lib.hid hI3
 clear hI3
 have hrb := rb_bool2 HI.out re (by simp)
 simp only [List.length_cons, List.length_nil, Nat.zero_add] at hrb
 obtain ⟨z0, z1, z2, z3, z4, z5, z6⟩ := HCC.out _ HI.out.2.1
 clear z0 z2 z3 z4 z5 z6
 go_wp2_with fail
 refine hrb.mono ?_
 rintro ee v1 ⟨e1, d1, rfl, hI, hV⟩
 have hlm1 : ([3] ++ b1 re).length ≤ 2 := by rw [List.length_append, b1_len]; simp
 generalize hL : [3] ++ b1 re = m1 at *
 have Hm1 := Lib.hid hL
 clear HI hL hrb z1
 have HI := Lib.hid hI
 clear hI hV
 go_wp2_with fail
 have hq0 := (fun (w' : World) (h : Upd (fun _ => False) w1 w') => And.intro (HCC.out w' h).2.2.1 (And.intro (HCC.out w' h).2.2.2.1 (HCC.out w' h).2.2.2.2.2.1)) _ (HI.out.2.1.trans (Upd.drew _ _))
 refine wp_region_plan_last [([0, 1, 2, 4, 5, 7, 8], 3), ([], 6), ([], 9)] [10] (fun w' => w'.cell? ⟨RB, 2, none⟩ = some (.int .i64 src) ∧ w'.cell? ⟨RB, 3, none⟩ = some (.int .i64 dst) ∧ w'.cell? ⟨RB, 5, none⟩ = some (.int .i64 com)) (by kernel_rfl) (by kernel_rfl) hq0 ?_
 clear hq0
 have hI := HI.out.other (Upd.drew _ _)
 clear HI
 have HI := Lib.hid hI
 clear hI
 iterate 7
  first | refine plan_skip rfl rfl ?_ | (refine plan_take (v := ?_) rfl rfl (fun w' hS => ?_) ?_; rotate_left; · (go_simp; try with_reducible rfl))
  simp only [putL]
 refine plan_act rfl (fun KK hKK => ?_)
 go_wp2_with fail
 refine (rb_int2 HI.out src (by omega)).mono ?_
 rintro ee v2 ⟨e2, d2, rfl, hI, hV⟩
 have hlm2 : (m1 ++ i4 src).length ≤ 6 := by rw [List.length_append, i4_length]; omega
 generalize hL : m1 ++ i4 src = m2 at *
 have Hm2 := Lib.hid hL
 clear HI hL
 have HI := Lib.hid hI
 clear hI hV
 have hq0 := (fun (w' : World) (h : Upd (fun _ => False) w1 w') => And.intro (HCC.out w' h).2.2.1 (And.intro (HCC.out w' h).2.2.2.1 (HCC.out w' h).2.2.2.2.2.1)) _ HI.out.2.1
 go_wp2_with fail
 refine hKK.out _ _ (.inr hq0) ?_
 clear hq0 hKK
 refine plan_act rfl (fun KK hKK => ?_)
 go_wp2_with fail
 refine (rb_int2 HI.out dst (by omega)).mono ?_
 rintro ee v3 ⟨e3, d3, rfl, hI, hV⟩
 have hlm3 : (m2 ++ i4 dst).length ≤ 10 := by rw [List.length_append, i4_length]; omega
 generalize hL : m2 ++ i4 dst = m3 at *
 have Hm3 := Lib.hid hL
 clear HI hL
 have HI := Lib.hid hI
 clear hI hV
 have hq0 := (fun (w' : World) (h : Upd (fun _ => False) w1 w') => And.intro (HCC.out w' h).2.2.1 (And.intro (HCC.out w' h).2.2.2.1 (HCC.out w' h).2.2.2.2.2.1)) _ HI.out.2.1
 go_wp2_with fail
 refine hKK.out _ _ (.inr hq0) ?_
 clear hq0 hKK
 refine plan_act rfl (fun KK hKK => ?_)
 go_wp2_with fail
 refine (rb_int2 HI.out com (by omega)).mono ?_
 rintro ee v4 ⟨e4, d4, rfl, hI, hV⟩
 have hlm4 : (m3 ++ i4 com).length ≤ 14 := by rw [List.length_append, i4_length]; omega
 generalize hL : m3 ++ i4 com = m4 at *
 have Hm4 := Lib.hid hL
 clear HI hL
 have HI := Lib.hid hI
 clear hI hV
 have hq0 := (fun (w' : World) (h : Upd (fun _ => False) w1 w') => And.intro (HCC.out w' h).2.2.1 (And.intro (HCC.out w' h).2.2.2.1 (HCC.out w' h).2.2.2.2.2.1)) _ HI.out.2.1
 go_wp2_with fail
 refine hKK.out _ _ (.inr hq0) ?_
 clear hq0 hKK
 iterate 1
  first | refine plan_lskip rfl rfl ?_ | (refine plan_last (v := ?_) rfl rfl (fun w' hS => ?_) ?_; rotate_left; · (go_simp; try with_reducible rfl))
  simp only [putL]
 refine plan_end ?_
 obtain ⟨z0, z1, z2, z3, z4, z5, z6⟩ := HCC.out _ HI.out.2.1
 clear z0 z1 z2 z3 z5 z6
 go_wp2_with fail
 refine (rb_int2 HI.out (ss.length : Int) (by omega)).mono ?_
 rintro ee v5 ⟨e5, d5, rfl, hI, hV⟩
 have hlm5 : (m4 ++ i4 (ss.length : Int)).length ≤ 18 := by rw [List.length_append, i4_length]; omega
 generalize hL : m4 ++ i4 (ss.length : Int) = m5 at *
 have Hm5 := Lib.hid hL
 clear HI hL
 have HI := Lib.hid hI
 clear hI hV
 clear z4
 go_wp2_with fail
 go_loopw [4, 5] (fun s i wr => ∃ (j : Nat) (e : Option Addr) (d : Nat) (L : List UInt8), Hid (L = m5 ++ (ss.take j).flatMap stB) ∧ j ≤ ss.length ∧ s = .slice e L.length d ∧ i = .int .i64 (j : Int) ∧ Hid (Rb w1 wr e d L)) (fun _ i _ => ss.length - (intOf i).toNat)
 case atStart => exact ⟨0, e5, d5, m5, Lib.hid (by simp), Nat.zero_le _, rfl, rfl, HI⟩
 case round =>
  clear HI
  obtain ⟨j, e, d, L, HLj, hj, rfl, rfl, HI⟩ := hrel
  obtain ⟨z0, z1, z2, z3, z4, z5, z6⟩ := HCC.out _ HI.out.2.1
  clear z0 z1 z2 z3 z5
  by_cases hlt : j < ss.length
  ·have hI : (j : Int) < (ss.length : Int) := by omega
   obtain ⟨b, o, hb, _⟩ := (HI0.out w1 (Upd.refl _ _)).sv.at (show 0 < ss.length by omega) (by decide)
   dsimp only at hb
   subst hb
   have HQ : Hid (∀ w', Upd (fun _ => False) w1 w' → w'.cell? ⟨RB, 4, none⟩ = some (.slice (some ⟨b, o, none⟩) ss.length sc) ∧ w'.cell? ⟨b, o + j * 2, none⟩ = some (.int .i64 ss[j].com) ∧ w'.cell? ⟨b, o + j * 2 + 1, none⟩ = some (.slice ss[j].a ss[j].fs.length ss[j].c)) := Lib.hid (fun w' hU => by
    obtain ⟨b', o', hb', hcell⟩ := (HI0.out w' hU).sv.at (show 0 < ss.length by omega) (by decide)
    cases hb'
    exact ⟨(HCC.out w' hU).2.2.2.2.1, hcell (j * 2 + 0) _ (st_get ss j 0 hlt (by decide)), hcell (j * 2 + 1) _ (st_get ss j 1 hlt (by decide))⟩)
   have HMX : Hid (∀ w', Upd (fun _ => False) w1 w' → StIn w' ss[j]) := Lib.hid (fun w' hU => (HI0.out w' hU).se ss[j] (List.getElem_mem hlt))
   have hsucc := flatMap_succ stB ss j hlt
   have hlen : (L ++ stB ss[j]).length ≤ 18 + A := by
    have h1 := flat_take_le stB ss (j + 1)
    rw [HAA.out] at h1
    rw [HLj.out, List.append_assoc, hsucc, List.length_append]
    omega
   rw [List.length_append, stB_len] at hlen
   have HSU := Lib.hid hsucc
   clear hsucc z4 z6
   generalize ss[j] = x at *
   obtain ⟨xo, xn, xa, xc⟩ := x
   dsimp only at *
   obtain ⟨z2, z5, z6⟩ := HQ.out _ HI.out.2.1
   go_upto_region 9 with (fail)
   clear z2 z5 z6 hI
   unfold flsB at hlen
   rw [List.length_append, i4_length] at hlen
   have hq0 := HQ.out _ (HI.out.2.1.trans (Upd.drew _ _))
   refine wp_region_plan_last [([0, 1, 2, 3, 4, 5, 6, 8, 9, 10, 11, 12, 13, 14], 7), ([], 15)] [16] (fun w' => w'.cell? ⟨RB, 4, none⟩ = some (.slice (some ⟨b, o, none⟩) ss.length sc) ∧ w'.cell? ⟨b, o + j * 2, none⟩ = some (.int .i64 xo) ∧ w'.cell? ⟨b, o + j * 2 + 1, none⟩ = some (.slice xa xn.length xc)) (by kernel_rfl) (by kernel_rfl) hq0 ?_
   clear hq0
   have hI := HI.out.other (Upd.drew _ _)
   clear HI
   have HI := Lib.hid hI
   clear hI
   iterate 14
    first | refine plan_skip rfl rfl ?_ | (refine plan_take (v := ?_) rfl rfl (fun w' hS => ?_) ?_; rotate_left; · (go_simp; try with_reducible rfl))
    simp only [putL]
   refine plan_act rfl (fun KK hKK => ?_)
   go_wp2_with fail
   refine (rb_int2 HI.out xo (by omega)).mono ?_
   rintro ee v6 ⟨e6, d6, rfl, hI, hV⟩
   have hlm6 : (L ++ i4 xo).length ≤ L.length + 4 := by rw [List.length_append, i4_length]; omega
   generalize hL : L ++ i4 xo = m6 at *
   have Hm6 := Lib.hid hL
   clear HI hL
   have HI := Lib.hid hI
   clear hI hV
   have hq0 := HQ.out _ HI.out.2.1
   go_wp2_with fail
   refine hKK.out _ _ (.inr hq0) ?_
   clear hq0 hKK
   refine plan_act rfl (fun KK hKK => ?_)
   go_wp2_with fail
   refine (rb_int2 HI.out (xn.length : Int) (by omega)).mono ?_
   rintro ee v7 ⟨e7, d7, rfl, hI, hV⟩
   have hlm7 : (m6 ++ i4 (xn.length : Int)).length ≤ L.length + 8 := by rw [List.length_append, i4_length]; omega
   generalize hL : m6 ++ i4 (xn.length : Int) = m7 at *
   have Hm7 := Lib.hid hL
   clear HI hL
   have HI := Lib.hid hI
   clear hI hV
   have hq0 := HQ.out _ HI.out.2.1
   go_wp2_with fail
   refine hKK.out _ _ (.inr hq0) ?_
   clear hq0 hKK
   iterate 1
    first | refine plan_lskip rfl rfl ?_ | (refine plan_last (v := ?_) rfl rfl (fun w' hS => ?_) ?_; rotate_left; · (go_simp; try with_reducible rfl))
    simp only [putL]
   refine plan_end ?_
   go_wp2_with fail
   have hcx := (HMX.out _ HI.out.2.1).v.cap
   have hlx := (HMX.out _ HI.out.2.1).v.le
   unfold maxLen at hcx
   dsimp only at hcx hlx
   go_loopw [4, 6] (fun s i wz => ∃ (q : Nat) (e : Option Addr) (d : Nat) (M : List UInt8), Hid (M = m7 ++ (xn.take q).flatMap encF) ∧ q ≤ xn.length ∧ s = .slice e M.length d ∧ i = .int .i64 (q : Int) ∧ Hid (Rb w1 wz e d M)) (fun _ i _ => xn.length - (intOf i).toNat)
   case atStart => exact ⟨0, e7, d7, m7, Lib.hid (by simp), Nat.zero_le _, rfl, rfl, HI⟩
   case round =>
    clear HI
    obtain ⟨q, e, d, M, HMq, hq, rfl, rfl, HI⟩ := hrel
    obtain ⟨z2, z5, z6⟩ := HQ.out _ HI.out.2.1
    clear z5
    by_cases hlt2 : q < xn.length
    ·have hI : (q : Int) < (xn.length : Int) := by omega
     obtain ⟨b2, o2, hb2, hcell⟩ := (HMX.out _ HI.out.2.1).v.at (show 0 < xn.length by omega) (by decide)
     dsimp only at hb2
     subst hb2
     have q0 : World.cell? _ ⟨b2, o2 + q * 3, none⟩ = some (sv xn[q].path) := hcell (q * 3 + 0) _ (fl_get xn q 0 hlt2 (by decide))
     have q1 : World.cell? _ ⟨b2, o2 + q * 3 + 1, none⟩ = some (Value.bool xn[q].exec) := hcell (q * 3 + 1) _ (fl_get xn q 1 hlt2 (by decide))
     have q2 : World.cell? _ ⟨b2, o2 + q * 3 + 2, none⟩ = some (sv xn[q].text) := hcell (q * 3 + 2) _ (fl_get xn q 2 hlt2 (by decide))
     have hs2 := flatMap_succ encF xn q hlt2
     have hlen2 : (M ++ encF xn[q]).length ≤ 18 + A := by
      have h1 := flat_take_le encF xn (q + 1)
      rw [HMq.out, List.append_assoc, hs2, List.length_append]
      omega
     rw [List.length_append, encF_len] at hlen2
     clear hcell
     generalize xn[q] = f at *
     have HS2 := Lib.hid hs2
     clear hs2
     obtain ⟨fp, fe, ft⟩ := f
     dsimp only at *
     unfold sv at q0 q2
     have hnew := heap_alloc_new wr (.cells #[Value.string (str fp), .bool fe, Value.string (str ft)] 103)
     have HNEW := Lib.hid hnew
     clear hnew
     go_upto_region 14 with (fail)
     have hI2 := HI.out.other (Upd.alloc (fun _ => False) wr (.cells #[Value.string (str fp), .bool fe, Value.string (str ft)] 103))
     have hnew := HNEW.out
     obtain ⟨xb, hxb⟩ : ∃ xb, wr.heap.size = xb := ⟨_, rfl⟩
     rw [hxb] at hnew ⊢
     generalize wr.alloc (.cells #[Value.string (str fp), .bool fe, Value.string (str ft)] 103) = y1 at *
     have HCX : Hid (∀ w', Upd (fun _ => False) y1 w' → w'.cell? ⟨xb, 0, none⟩ = some (Value.string (str fp)) ∧ w'.cell? ⟨xb, 1, none⟩ = some (Value.bool fe) ∧ w'.cell? ⟨xb, 2, none⟩ = some (Value.string (str ft))) := Lib.hid (fun w' hU => by
      have hr := (hU.block xb (lt_of_heap hnew) (fun h => h)).trans hnew
      exact ⟨cell_of_row _ xb 0 _ _ _ hr, cell_of_row _ xb 1 _ _ _ hr, cell_of_row _ xb 2 _ _ _ hr⟩)
     have HT : Hid (Upd (fun _ => False) y1 y1) := Lib.hid (Upd.refl _ _)
     clear HI HNEW hxb hnew q0 q1 q2 z2 z6 hI
     have HI := Lib.hid hI2
     clear hI2
     have hq0 := HCX.out _ (HT.out.trans (Upd.drew _ _))
     refine wp_region_plan_last [([0, 1, 2, 4, 5, 7, 8], 3), ([], 6), ([], 9)] [10] (fun w' => w'.cell? ⟨xb, 0, none⟩ = some (Value.string (str fp)) ∧ w'.cell? ⟨xb, 1, none⟩ = some (Value.bool fe) ∧ w'.cell? ⟨xb, 2, none⟩ = some (Value.string (str ft))) (by kernel_rfl) (by kernel_rfl) hq0 ?_
     clear hq0
     have hI := HI.out.other (Upd.drew _ _)
     have HT := Lib.hid (HT.out.trans (Upd.drew _ _))
     clear HI
     have HI := Lib.hid hI
     clear hI
     iterate 7
      first | refine plan_skip rfl rfl ?_ | (refine plan_take (v := ?_) rfl rfl (fun w' hS => ?_) ?_; rotate_left; · (go_simp; try with_reducible rfl))
      simp only [putL]
     refine plan_act rfl (fun KK hKK => ?_)
     go_wp2_with fail
     refine (rb_text2 HI.out fp (by omega) (by omega)).mono ?_
     rintro ee v8 ⟨e8, d8, rfl, hI, hV⟩
     have hlm8 : (M ++ tx fp).length ≤ M.length + 4 + fp.length := by rw [List.length_append, tx_len]; omega
     generalize hL : M ++ tx fp = m8 at *
     have Hm8 := Lib.hid hL
     clear HI hL
     have HI := Lib.hid hI
     have HT := Lib.hid (HT.out.trans hV)
     clear hI hV
     have hq0 := HCX.out _ HT.out
     go_wp2_with fail
     refine hKK.out _ _ (.inr hq0) ?_
     clear hq0 hKK
     refine plan_act rfl (fun KK hKK => ?_)
     go_wp2_with fail
     refine (rb_bool2 HI.out fe (by omega)).mono ?_
     rintro ee v9 ⟨e9, d9, rfl, hI, hV⟩
     have hlm9 : (m8 ++ b1 fe).length ≤ M.length + 5 + fp.length := by rw [List.length_append, b1_len]; omega
     generalize hL : m8 ++ b1 fe = m9 at *
     have Hm9 := Lib.hid hL
     clear HI hL
     have HI := Lib.hid hI
     have HT := Lib.hid (HT.out.trans hV)
     clear hI hV
     have hq0 := HCX.out _ HT.out
     go_wp2_with fail
     refine hKK.out _ _ (.inr hq0) ?_
     clear hq0 hKK
     refine plan_act rfl (fun KK hKK => ?_)
     go_wp2_with fail
     refine (rb_text2 HI.out ft (by omega) (by omega)).mono ?_
     rintro ee v10 ⟨e10, d10, rfl, hI, hV⟩
     have hlm10 : (m9 ++ tx ft).length ≤ M.length + 9 + fp.length + ft.length := by rw [List.length_append, tx_len]; omega
     generalize hL : m9 ++ tx ft = m10 at *
     have Hm10 := Lib.hid hL
     clear HI hL
     have HI := Lib.hid hI
     have HT := Lib.hid (HT.out.trans hV)
     clear hI hV
     have hq0 := HCX.out _ HT.out
     go_wp2_with fail
     refine hKK.out _ _ (.inr hq0) ?_
     clear hq0 hKK
     iterate 1
      first | refine plan_lskip rfl rfl ?_ | (refine plan_last (v := ?_) rfl rfl (fun w' hS => ?_) ?_; rotate_left; · (go_simp; try with_reducible rfl))
      simp only [putL]
     refine plan_end ?_
     have HN : Hid (m10 = m7 ++ (xn.take (q + 1)).flatMap encF) := Lib.hid (by
      rw [← HS2.out, ← Hm10.out, ← Hm9.out, ← Hm8.out, HMq.out]
      simp [encF])
     go_wp2_with fail
     go_roundw
     case rel => exact ⟨q + 1, e10, d10, m10, HN, by omega, rfl, by first | rfl | go_num, HI⟩
     case measure => simp [intOf]; omega
    ·obtain rfl : q = xn.length := by omega
     have hI : ¬ (xn.length : Int) < (xn.length : Int) := by omega
     have HN : Hid (M = m5 ++ (ss.take (j + 1)).flatMap stB) := Lib.hid (by
      rw [HMq.out, List.take_length, ← HSU.out, ← Hm7.out, ← Hm6.out, HLj.out]
      simp [stB, flsB])
     clear hlt2 hq
     go_wp2_with fail
     clear z2 z6 hI
     go_wp2_with fail
     go_roundw
     case rel => exact ⟨j + 1, e, d, M, HN, by omega, rfl, by first | rfl | go_num, HI⟩
     case measure => simp [intOf]; omega
  ·obtain rfl : j = ss.length := by omega
   have HLL := HLj.out
   rw [List.take_length] at HLL
   have hlL : L.length ≤ 18 + A := by rw [HLL, List.length_append, HAA.out]; omega
   have HLm := Lib.hid HLL
   have hI : ¬ (ss.length : Int) < (ss.length : Int) := by omega
   clear HLj HLL hlt hj
   go_wp2_with fail
   clear z4 hI
   refine (rb_int2 HI.out (cs.length : Int) (by omega)).mono ?_
   rintro ee v11 ⟨e11, d11, rfl, hI, hV⟩
   have hlm11 : (L ++ i4 (cs.length : Int)).length ≤ 22 + A := by rw [List.length_append, i4_length]; omega
   generalize hL : L ++ i4 (cs.length : Int) = m11 at *
   have Hm11 := Lib.hid hL
   clear HI hL
   have HI := Lib.hid hI
   clear hI hV
   clear z6
   go_wp2_with fail
   go_loopw [4, 8] (fun s i wr => ∃ (j : Nat) (e : Option Addr) (d : Nat) (L : List UInt8), Hid (L = m11 ++ (cs.take j).flatMap clB) ∧ j ≤ cs.length ∧ s = .slice e L.length d ∧ i = .int .i64 (j : Int) ∧ Hid (Rb w1 wr e d L)) (fun _ i _ => cs.length - (intOf i).toNat)
   case atStart => exact ⟨0, e11, d11, m11, Lib.hid (by simp), Nat.zero_le _, rfl, rfl, HI⟩
   case round =>
    clear HI
    obtain ⟨j, e, d, L, HLj, hj, rfl, rfl, HI⟩ := hrel
    obtain ⟨z0, z1, z2, z3, z4, z5, z6⟩ := HCC.out _ HI.out.2.1
    clear z0 z1 z2 z3 z4 z5
    by_cases hlt : j < cs.length
    ·have hI : (j : Int) < (cs.length : Int) := by omega
     obtain ⟨b, o, hb, hcell⟩ := (HI0.out wr HI.out.2.1).cv.at (show 0 < cs.length by omega) (by decide)
     dsimp only at hb
     subst hb
     have q0 : wr.cell? ⟨b, o + j * 3, none⟩ = some (sv cs[j].path) := hcell (j * 3 + 0) _ (cl_get cs j 0 hlt (by decide))
     have q1 : wr.cell? ⟨b, o + j * 3 + 1, none⟩ = some (.int .i64 cs[j].kind) := hcell (j * 3 + 1) _ (cl_get cs j 1 hlt (by decide))
     have q2 : wr.cell? ⟨b, o + j * 3 + 2, none⟩ = some (sv cs[j].text) := hcell (j * 3 + 2) _ (cl_get cs j 2 hlt (by decide))
     have hsucc := flatMap_succ clB cs j hlt
     have hlen : (L ++ clB cs[j]).length ≤ 22 + A + BB := by
      have h1 := flat_take_le clB cs (j + 1)
      rw [HBB.out] at h1
      rw [HLj.out, List.append_assoc, hsucc, List.length_append]
      omega
     rw [List.length_append, clB_len] at hlen
     have HSU := Lib.hid hsucc
     clear hsucc hcell
     generalize cs[j] = x at *
     obtain ⟨fp, fk, ft⟩ := x
     dsimp only at *
     unfold sv at q0 q2
     have hnew := heap_alloc_new wr (.cells #[Value.string (str fp), .int .i64 fk, Value.string (str ft)] 100)
     have HNEW := Lib.hid hnew
     clear hnew
     go_upto_region 20 with (fail)
     have hI2 := HI.out.other (Upd.alloc (fun _ => False) wr (.cells #[Value.string (str fp), .int .i64 fk, Value.string (str ft)] 100))
     have hnew := HNEW.out
     obtain ⟨xb, hxb⟩ : ∃ xb, wr.heap.size = xb := ⟨_, rfl⟩
     rw [hxb] at hnew ⊢
     generalize wr.alloc (.cells #[Value.string (str fp), .int .i64 fk, Value.string (str ft)] 100) = y1 at *
     have HCX : Hid (∀ w', Upd (fun _ => False) y1 w' → w'.cell? ⟨xb, 0, none⟩ = some (Value.string (str fp)) ∧ w'.cell? ⟨xb, 1, none⟩ = some (.int .i64 fk) ∧ w'.cell? ⟨xb, 2, none⟩ = some (Value.string (str ft))) := Lib.hid (fun w' hU => by
      have hr := (hU.block xb (lt_of_heap hnew) (fun h => h)).trans hnew
      exact ⟨cell_of_row _ xb 0 _ _ _ hr, cell_of_row _ xb 1 _ _ _ hr, cell_of_row _ xb 2 _ _ _ hr⟩)
     have HT : Hid (Upd (fun _ => False) y1 y1) := Lib.hid (Upd.refl _ _)
     clear HI HNEW hxb hnew q0 q1 q2 z6 hI
     have HI := Lib.hid hI2
     clear hI2
     have hq0 := HCX.out _ (HT.out.trans (Upd.drew _ _))
     refine wp_region_plan_last [([0, 1, 2, 4, 5, 7, 8], 3), ([], 6), ([], 9)] [10] (fun w' => w'.cell? ⟨xb, 0, none⟩ = some (Value.string (str fp)) ∧ w'.cell? ⟨xb, 1, none⟩ = some (.int .i64 fk) ∧ w'.cell? ⟨xb, 2, none⟩ = some (Value.string (str ft))) (by kernel_rfl) (by kernel_rfl) hq0 ?_
     clear hq0
     have hI := HI.out.other (Upd.drew _ _)
     have HT := Lib.hid (HT.out.trans (Upd.drew _ _))
     clear HI
     have HI := Lib.hid hI
     clear hI
     iterate 7
      first | refine plan_skip rfl rfl ?_ | (refine plan_take (v := ?_) rfl rfl (fun w' hS => ?_) ?_; rotate_left; · (go_simp; try with_reducible rfl))
      simp only [putL]
     refine plan_act rfl (fun KK hKK => ?_)
     go_wp2_with fail
     refine (rb_text2 HI.out fp (by omega) (by omega)).mono ?_
     rintro ee v12 ⟨e12, d12, rfl, hI, hV⟩
     have hlm12 : (L ++ tx fp).length ≤ L.length + 4 + fp.length := by rw [List.length_append, tx_len]; omega
     generalize hL : L ++ tx fp = m12 at *
     have Hm12 := Lib.hid hL
     clear HI hL
     have HI := Lib.hid hI
     have HT := Lib.hid (HT.out.trans hV)
     clear hI hV
     have hq0 := HCX.out _ HT.out
     go_wp2_with fail
     refine hKK.out _ _ (.inr hq0) ?_
     clear hq0 hKK
     refine plan_act rfl (fun KK hKK => ?_)
     go_wp2_with fail
     refine (rb_int2 HI.out fk (by omega)).mono ?_
     rintro ee v13 ⟨e13, d13, rfl, hI, hV⟩
     have hlm13 : (m12 ++ i4 fk).length ≤ L.length + 8 + fp.length := by rw [List.length_append, i4_length]; omega
     generalize hL : m12 ++ i4 fk = m13 at *
     have Hm13 := Lib.hid hL
     clear HI hL
     have HI := Lib.hid hI
     have HT := Lib.hid (HT.out.trans hV)
     clear hI hV
     have hq0 := HCX.out _ HT.out
     go_wp2_with fail
     refine hKK.out _ _ (.inr hq0) ?_
     clear hq0 hKK
     refine plan_act rfl (fun KK hKK => ?_)
     go_wp2_with fail
     refine (rb_text2 HI.out ft (by omega) (by omega)).mono ?_
     rintro ee v14 ⟨e14, d14, rfl, hI, hV⟩
     have hlm14 : (m13 ++ tx ft).length ≤ L.length + 12 + fp.length + ft.length := by rw [List.length_append, tx_len]; omega
     generalize hL : m13 ++ tx ft = m14 at *
     have Hm14 := Lib.hid hL
     clear HI hL
     have HI := Lib.hid hI
     have HT := Lib.hid (HT.out.trans hV)
     clear hI hV
     have hq0 := HCX.out _ HT.out
     go_wp2_with fail
     refine hKK.out _ _ (.inr hq0) ?_
     clear hq0 hKK
     iterate 1
      first | refine plan_lskip rfl rfl ?_ | (refine plan_last (v := ?_) rfl rfl (fun w' hS => ?_) ?_; rotate_left; · (go_simp; try with_reducible rfl))
      simp only [putL]
     refine plan_end ?_
     have HN : Hid (m14 = m11 ++ (cs.take (j + 1)).flatMap clB) := Lib.hid (by
      rw [← HSU.out, ← Hm14.out, ← Hm13.out, ← Hm12.out, HLj.out]
      simp [clB])
     go_wp2_with fail
     go_roundw
     case rel => exact ⟨j + 1, e14, d14, m14, HN, by omega, rfl, by first | rfl | go_num, HI⟩
     case measure => simp [intOf]; omega
    ·obtain rfl : j = cs.length := by omega
     have HLL := HLj.out
     rw [List.take_length] at HLL
     have HLn := Lib.hid HLL
     have hI : ¬ (cs.length : Int) < (cs.length : Int) := by omega
     clear HLj HLL hlt hj
     have hLL : RL = L := by rw [HD.out, HLn.out, ← Hm11.out, HLm.out, ← Hm5.out, ← Hm4.out, ← Hm3.out, ← Hm2.out, ← Hm1.out]
     subst hLL
     have HF := Lib.hid (HI.out.packed HU.out)
     go_wp2_with fail
     clear z6 HI
     go_ret2
     exact ⟨e, d, rfl, HF.out⟩
end Go.Proofs.YtccejkikphpnfaaGreatDoor
