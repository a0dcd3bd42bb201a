
/- MetalogTells: for every input of at most 1048576 values and letters together the statement's function answers true, and each argument reads behind the call as it read before. Condition: that bound. -/
import Derived.Test.YtccejkikphpnfaaGreatDoorMet13
import Derived.Test.YtccejkikphpnfaaGreatDoorWn
import Derived.Test.YtccejkikphpnfaaGreatDoorMtB
import Derived.Test.YtccejkikphpnfaaGreatDoorMtA
import Derived.Test.YtccejkikphpnfaaGreatDoorTl4
import Derived.Deep.CutBlock
import Derived.Test.YtccejkikphpnfaaGreatDoorFrame
import Derived.Test.YtccejkikphpnfaaGreatDoorRows
import Derived.Test.YtccejkikphpnfaaGreatDoorOpen
import Derived.OpenShut
import Derived.Test.YtccejkikphpnfaaGreatDoorTie
import Derived.Test.YtccejkikphpnfaaGreatDoorCards
import Derived.ProofKit
import Derived.LaidMore
import Derived.LaidLaws
import Derived.Lay
import Derived.SevenTiedAt
import Derived.Stop.Joined
import Derived.Deep.DeepHandedRow
namespace Go.Proofs.YtccejkikphpnfaaGreatDoor
set_option linter.unusedSimpArgs false
set_option linter.unusedVariables false
set_option maxRecDepth 100000
open Go.ChangeShapes Go.WideShapes Go.ChangeAt Go.RowKit

/-- A row of bytes that was made since w1. -/
def Rb (w1 w : World) (e : Option Addr) (d : Nat) (l : List UInt8) : Prop :=
  w.ownsRow 0 5 1 (.slice e l.length d) l.length (bvs l) ∧ Upd (fun _ => False) w1 w ∧ (∀ g, blk e = some g → w1.heap.size ≤ g)
theorem Rb.vw {w1 w : World} {e : Option Addr} {d : Nat} {l : List UInt8} (h : Rb w1 w e d l) : Vw w e l.length d 1 (bvs l) := Vw.of_own h.1
theorem Rb.other {w1 w w' : World} {e : Option Addr} {d : Nat} {l : List UInt8} (h : Rb w1 w e d l) (hU : Upd (fun _ => False) w w') : Rb w1 w' e d l :=
  ⟨ownsRow_upd h.1 hU (fun _ _ h => h), h.2.1.trans hU, h.2.2⟩
theorem Rb.made {w1 w w' : World} {e : Option Addr} {d : Nat} {l l' : List UInt8} {en : Ending} {n : Bool} (h : Rb w1 w e d l) (h' : MadeB w l' n en w') :
    ∃ e' d', en = .returned (.slice e' l'.length d') ∧ Rb w1 w' e' d' l' := by
  obtain ⟨a, c, rfl, hown, hU, hf, _⟩ := h'
  exact ⟨a, c, rfl, hown, h.2.1.trans hU, fun g hg => Nat.le_trans h.2.1.size (hf g hg)⟩
theorem Rb.lit (w1 w : World) (hU : Upd (fun _ => False) w1 w) (x : UInt8) : Rb w1 (w.alloc (.cells #[.int .u8 (x.toNat : Int)] 5)) (some ⟨w.heap.size, 0, none⟩) 1 [x] :=
  ⟨lit_own w x, hU.trans (Upd.alloc _ _ _), fun g hg => by cases hg; exact hU.size⟩
theorem rb_int {w1 w : World} {e : Option Addr} {d : Nat} {l : List UInt8} (h : Rb w1 w e d l) (v : Int) (hl : l.length ≤ 100000000) :
    Calls Tryz.prog 50 #[.slice e l.length d, .int .i64 v] w fun en w' => ∃ e' d', en = .returned (.slice e' (l ++ i4 v).length d') ∧ Rb w1 w' e' d' (l ++ i4 v) :=
  (refInt_any e d l v w h.vw hl).mono (fun _ _ h' => h.made h')
theorem rb_bool {w1 w : World} {e : Option Addr} {d : Nat} {l : List UInt8} (h : Rb w1 w e d l) (b : Bool) (hl : l.length ≤ 100000000) :
    Calls Tryz.prog 56 #[.slice e l.length d, .bool b] w fun en w' => ∃ e' d', en = .returned (.slice e' (l ++ b1 b).length d') ∧ Rb w1 w' e' d' (l ++ b1 b) :=
  (refBool_any e d l b w h.vw hl).mono (fun _ _ h' => h.made h')
theorem rb_text {w1 w : World} {e : Option Addr} {d : Nat} {l : List UInt8} (h : Rb w1 w e d l) (s : List UInt8) (hl : l.length ≤ 100000000) (hs : s.length ≤ 100000000) :
    Calls Tryz.prog 51 #[.slice e l.length d, .string (str s)] w fun en w' => ∃ e' d', en = .returned (.slice e' (l ++ tx s).length d') ∧ Rb w1 w' e' d' (l ++ tx s) := by
  have := refText_any e d l (str s) w h.vw hl (by rw [str_size]; exact hs)
  rw [t4_str] at this
  exact this.mono (fun _ _ h' => h.made h')
/-- What Pack answers. -/
theorem Rb.packed {w0 w1 w : World} {e : Option Addr} {d : Nat} {l : List UInt8} (h : Rb w1 w e d l) (hU : Upd (fun _ => False) w0 w1) :
    Vw w e l.length d 1 (bvs l) ∧ (∀ g, blk e = some g → w0.heap.size ≤ g ∧ g < w.heap.size) ∧ Upd (fun _ => False) w0 w :=
  ⟨h.vw, fun g hg => ⟨Nat.le_trans hU.size (h.2.2 g hg), (h.1.lt g ((own_blk _ _ _).trans hg)).2⟩, hU.trans h.2.1⟩
theorem Rb.app {w1 w w3 : World} {e a3 : Option Addr} {d m c3 : Nat} {L k : List UInt8} (h : Rb w1 w e d L) (hk : k.length = m)
    (hown2 : w3.ownsRow 0 5 1 (.slice a3 (L.length + m) c3) (L.length + m) (bvs L ++ bvs k)) (hg2 : w.grownBy w3 (blk e)) (hat2 : blk a3 = blk e ∨ blk a3 = some w.heap.size) : Rb w1 w3 a3 c3 (L ++ k) :=
  app_next (w := w1) h.2.1 rfl h.2.2 hk hown2 hg2 hat2
end Go.Proofs.YtccejkikphpnfaaGreatDoor

namespace Go.Proofs.YtccejkikphpnfaaGreatDoor
set_option linter.unusedSimpArgs false
set_option linter.unusedVariables false
set_option maxRecDepth 100000
open Go.ChangeShapes Go.WideShapes Go.ChangeAt Go.RowKit

set_option maxHeartbeats 32000000 in
theorem r21PackRoot_gen (r : Rt) (w : World) (h : RtIn w r) : Calls Tryz.prog 12 #[.agg (rtA r)] w (Packed w (rootGR r) (rootGE r)) := by
  have hU1 := Upd.alloc (fun _ => False) w (.cells (rtA r) 26)
  have hrow := heap_alloc_new w (.cells (rtA r) 26)
  have hv1 := h.upd hU1
  have hmr := rootMay_any r (w.alloc (.cells (rtA r) 26)) hv1
  have hsz := rootB_sz r
  have HRR : Hid (rootGR r = if rootB r then rootG r else []) := Lib.hid rfl
  have HRE : Hid (rootGE r = if rootB r then 0 else 5) := Lib.hid rfl
  have HD : Hid (rootG r = [1] ++ i4 r.p ++ i4 r.ks.length ++ kysB r.ks ++ i4 r.ms.length ++ r.ms.flatMap mkB ++ i4 r.ns.length ++ r.ns.flatMap nmB ++ i4 r.k) := Lib.hid rfl
  generalize rootGR r = RL at *
  generalize rootGE r = RE at *
  generalize rootG r = LL at *
  generalize rootB r = R at *
  obtain ⟨p, a, c, ks, ma, mc, ms, na, nc, ns, k⟩ := r
  unfold rtA at *
  dsimp only at *
  have HP := Lib.hid (And.intro hU1 (And.intro hrow hv1))
  have HSZ := Lib.hid hsz
  clear hU1 hrow hv1 h hsz
  go_enter Tryz.func12, Tryz.ntmps12
  go_upto_region 1 with (fail)
  obtain ⟨hU1, hrow, hv1⟩ := HP.out
  generalize w.alloc (.cells #[.int .i64 p, .slice a ks.length c, .slice ma ms.length mc, .slice na ns.length nc, .int .i64 k] 26) = y0 at *
  obtain ⟨RB, hRB⟩ : ∃ B, w.heap.size = B := ⟨_, rfl⟩
  rw [hRB] at hrow ⊢
  have HB : Hid (w.heap.size = RB) := Lib.hid hRB
  have HU0 := Lib.hid hU1
  have HR0 := Lib.hid hrow
  have hz0 := lt_of_heap hrow
  have HZ0 := Lib.hid hz0
  clear hRB hU1 hz0
  have hrow' := hrow
  clear hrow
  have HV0 := Lib.hid hv1
  clear hv1 HP
  go_wp2_with (refine wpList_load_row rfl 26 (.tmp 1) rfl RB #[.int .i64 p, .slice a ks.length c, .slice ma ms.length mc, .slice na ns.length nc, .int .i64 k] 26 (0, 0) _ rfl hrow' Tryz.underlying26 rfl (by rw [infoRoot]; rfl) ?_)
  refine hmr.mono ?_
  rintro e w1 ⟨rfl, hU2⟩
  have HR : Hid (∀ w', Upd (fun _ => False) w1 w' → w'.heap[RB]? = some (.cells #[.int .i64 p, .slice a ks.length c, .slice ma ms.length mc, .slice na ns.length nc, .int .i64 k] 26)) := Lib.hid (fun w' hU => (hU.block RB (Nat.lt_of_lt_of_le HZ0.out hU2.size) (fun h => h)).trans ((hU2.block RB HZ0.out (fun h => h)).trans HR0.out))
  have HCC : Hid (∀ w', Upd (fun _ => False) w1 w' → w'.cell? ⟨RB, 0, none⟩ = some (.int .i64 p) ∧ w'.cell? ⟨RB, 1, none⟩ = some (.slice a ks.length c) ∧ w'.cell? ⟨RB, 2, none⟩ = some (.slice ma ms.length mc) ∧ w'.cell? ⟨RB, 3, none⟩ = some (.slice na ns.length nc) ∧ w'.cell? ⟨RB, 4, none⟩ = some (.int .i64 k)) := Lib.hid (fun w' hU => row5 (HR.out w' hU))
  have HI0 : Hid (∀ w', Upd (fun _ => False) w1 w' → RtIn w' ⟨p, a, c, ks, ma, mc, ms, na, nc, ns, k⟩) := Lib.hid (fun w' hU => HV0.out.upd (hU2.trans hU))
  have HU := Lib.hid (HU0.out.trans hU2)
  clear hmr hU2 HU0 HR0 HZ0 hrow' HV0
  cases R with
  | false =>
    have hRL := HRR.out
    have hRE := HRE.out
    simp only [Bool.false_eq_true, if_false] at hRL hRE
    subst hRL hRE
    go_wp2_with fail
    go_ret2
    exact ⟨none, 0, rfl, Vw.nl _ _, (fun g h => by cases h), HU.out⟩
  | true =>
  obtain ⟨hn, hA, hB⟩ := HSZ.out rfl
  have hRL := HRR.out
  have hRE := HRE.out
  simp only [if_true] at hRL hRE
  subst hRL hRE
  clear HRR HRE HSZ
  generalize hAA : (ms.flatMap mkB).length = A at *
  generalize hBB : (ns.flatMap nmB).length = BB at *
  have HAA := Lib.hid hAA
  have HBB := Lib.hid hBB
  clear hAA hBB
  obtain ⟨i0, hi, hz0, hz1, hz2⟩ := info_parts infoU8
  have HIU := Lib.hid (And.intro hi (And.intro hz0 (And.intro hz1 hz2)))
  clear hi hz0 hz1 hz2
  have hcm := (HI0.out w1 (Upd.refl _ _)).mv.cap
  have hlm := (HI0.out w1 (Upd.refl _ _)).mv.le
  have hcn := (HI0.out w1 (Upd.refl _ _)).nv.cap
  have hln := (HI0.out w1 (Upd.refl _ _)).nv.le
  unfold maxLen at hcm hcn
  dsimp only at hcm hlm hcn hln
  go_upto_region 3 with (fail)
  have hq := HCC.out w1.drew (Upd.drew _ _)
  refine wp_region_plan_last [([1, 2, 4, 5, 6], 0), ([], 3), ([], 7)] [8] (fun w' => w'.cell? ⟨RB, 0, none⟩ = some (.int .i64 p) ∧ w'.cell? ⟨RB, 1, none⟩ = some (.slice a ks.length c)) (by kernel_rfl) (by kernel_rfl) ⟨hq.1, hq.2.1⟩ ?_
  clear hq
  iterate 5
    first
    | (refine plan_skip rfl rfl ?_)
    | (refine plan_take (v := ?_) rfl rfl (fun w' hS => ?_) ?_
       rotate_left
       · skip
         go_simp; try with_reducible rfl)
    simp only [Act.put, List.getElem_toArray, List.getElem_cons_zero, List.getElem_cons_succ, List.setIfInBounds_toArray, List.set_cons_zero, List.set_cons_succ]
  refine plan_act rfl (fun KK hKK => ?_)
  have hI : Rb w1 (w1.drew.alloc (.cells #[.int .u8 1] 5)) (some ⟨w1.drew.heap.size, 0, none⟩) 1 [1] := Rb.lit w1 w1.drew (Upd.drew _ _) 1
  have hrb := rb_int hI p (by simp)
  simp only [List.length_cons, List.length_nil, Nat.zero_add] at hrb
  have hq := HCC.out _ hI.2.1
  have hq0 := And.intro hq.1 hq.2.1
  clear hq hI
  go_wp2_with fail
  refine hKK.out _ _ (.inr hq0) ?_
  clear hq0 hKK
  refine plan_act rfl (fun KK hKK => ?_)
  go_wp2_with fail
  refine hrb.mono ?_
  rintro ee v1 ⟨e1, d1, rfl, hI⟩
  have hlm1 : ([1] ++ i4 p).length ≤ 5 := by rw [List.length_append, i4_length]; simp
  generalize hL : [1] ++ i4 p = m1 at *
  have Hm1 := Lib.hid hL
  clear hL hrb
  have HI := Lib.hid hI
  clear hI
  have hq := HCC.out _ HI.out.2.1
  have hq0 := And.intro hq.1 hq.2.1
  clear hq
  go_wp2_with fail
  refine hKK.out _ _ (.inr hq0) ?_
  clear hq0 hKK
  refine plan_act rfl (fun KK hKK => ?_)
  go_wp2_with fail
  refine (rb_int HI.out (ks.length : Int) (by omega)).mono ?_
  rintro ee v2 ⟨e2, d2, rfl, hI⟩
  have hlm2 : (m1 ++ i4 (ks.length : Int)).length ≤ 9 := by rw [List.length_append, i4_length]; omega
  generalize hL : m1 ++ i4 (ks.length : Int) = m2 at *
  have Hm2 := Lib.hid hL
  clear HI hL
  have HI := Lib.hid hI
  clear hI
  have hq := HCC.out _ HI.out.2.1
  have hq0 := And.intro hq.1 hq.2.1
  clear hq
  go_wp2_with fail
  refine hKK.out _ _ (.inr hq0) ?_
  clear hq0 hKK
  iterate 1
    first
    | (refine plan_lskip rfl rfl ?_)
    | (refine plan_last (v := ?_) rfl rfl (fun w' hS => ?_) ?_
       rotate_left
       · skip
         go_simp; try with_reducible rfl)
    simp only [Act.put, List.getElem_toArray, List.getElem_cons_zero, List.getElem_cons_succ, List.setIfInBounds_toArray, List.set_cons_zero, List.set_cons_succ]
  refine plan_end ?_
  go_wp2_with fail
  go_loopw [4, 5] (fun s i wr => ∃ (j : Nat) (e : Option Addr) (d : Nat) (L : List UInt8), Hid (L = m2 ++ kysB (ks.take j)) ∧ j ≤ ks.length ∧ s = .slice e L.length d ∧ i = .int .i64 (j : Int) ∧ Hid (Rb w1 wr e d L)) (fun _ i _ => ks.length - (intOf i).toNat)
  case atStart => exact ⟨0, e2, d2, m2, Lib.hid (by simp [kysB]), Nat.zero_le _, rfl, rfl, HI⟩
  case round =>
    clear HI
    obtain ⟨j, e, d, L, HLj, hj, rfl, rfl, HI⟩ := hrel
    have hlL : L.length ≤ 70000 := by have := kysB_le ks j hn; rw [HLj.out, List.length_append]; omega
    obtain ⟨z0, z1, z2, z3, z4⟩ := HCC.out _ HI.out.2.1
    clear z0 z3 z4
    by_cases hlt : j < ks.length
    · have hI : (j : Int) < (ks.length : Int) := by omega
      obtain ⟨b, o, hb, hcell⟩ := ky_at (HI0.out _ HI.out.2.1).cv (show 0 < ks.length by omega)
      dsimp only at hb hcell
      subst hb
      have hrg : wr.rangeAt b (o + j * 32) (bvs ks[j].b) := hcell j hlt
      have hk32 := ks[j].h
      have hsucc : L ++ ks[j].b = m2 ++ kysB (ks.take (j + 1)) := by rw [HLj.out, List.append_assoc, kysB_succ ks j hlt]
      generalize ks[j].b = kb at *
      have hsrc := key_src hk32 hrg
      have hown := HI.out.1
      have HSU := Lib.hid hsucc
      clear hcell hsucc hrg
      have hi := HIU.out.1
      have hz0 := HIU.out.2.1
      have hz1 := HIU.out.2.2.1
      have hz2 := HIU.out.2.2.2
      go_upto_region 7 with (fail)
      go_wp2_with (at_builtin; refine wpList_app _ rfl (.tmp 27) (.tmp 32) 33 33 rfl 5 i0 (.int .u8 0) 1 1 Tryz.underlying33 hi hz0 hz1 hz2 rfl e L.length d (bvs L) rfl hown (.slice (some ⟨b, o + j * 32, none⟩) 32 32) 32 (bvs kb) rfl hsrc ?_ ?_ ?_)
      · unfold maxLen; omega
      · omega
      clear hi hz0 hz1 hz2
      intro a3 c3 w3 hown3 hg3 hat3 hnil3
      have HI3 := Lib.hid (HI.out.app hk32 hown3 hg3 hat3)
      have hlen3 : L.length + 32 = (L ++ kb).length := by rw [List.length_append, hk32]
      clear hown3 hg3 hat3 hnil3 hsrc hown z1 z2
      go_wp2_with fail
      go_roundw
      case rel => exact ⟨j + 1, a3, c3, L ++ kb, Lib.hid HSU.out, by omega, by rw [hlen3], by first | rfl | go_num, HI3⟩
      case measure => simp [intOf]; omega
    · obtain rfl : j = ks.length := by omega
      have HLL := HLj.out
      rw [List.take_length] at HLL
      have HLk := Lib.hid HLL
      have hI : ¬ (ks.length : Int) < (ks.length : Int) := by omega
      clear HLj HLL hlt hj
      go_wp2_with fail
      clear z1 hI
      refine (rb_int HI.out (ms.length : Int) (by omega)).mono ?_
      rintro ee v3 ⟨e3, d3, rfl, hI⟩
      have hlm3 : (L ++ i4 (ms.length : Int)).length ≤ 70004 := by rw [List.length_append, i4_length]; omega
      generalize hL : L ++ i4 (ms.length : Int) = m3 at *
      have Hm3 := Lib.hid hL
      clear HI hL
      have HI := Lib.hid hI
      clear hI
      clear z2
      go_wp2_with fail
      go_loopw [4, 6] (fun s i wr => ∃ (j : Nat) (e : Option Addr) (d : Nat) (L : List UInt8), Hid (L = m3 ++ (ms.take j).flatMap mkB) ∧ j ≤ ms.length ∧ s = .slice e L.length d ∧ i = .int .i64 (j : Int) ∧ Hid (Rb w1 wr e d L)) (fun _ i _ => ms.length - (intOf i).toNat)
      case atStart => exact ⟨0, e3, d3, m3, Lib.hid (by simp), Nat.zero_le _, rfl, rfl, HI⟩
      case round =>
        clear HI
        obtain ⟨j, e, d, L, HLj, hj, rfl, rfl, HI⟩ := hrel
        obtain ⟨z0, z1, z2, z3, z4⟩ := HCC.out _ HI.out.2.1
        clear z0 z1 z4
        by_cases hlt : j < ms.length
        · have hI : (j : Int) < (ms.length : Int) := by omega
          obtain ⟨b, o, hb, _⟩ := (HI0.out w1 (Upd.refl _ _)).mv.at (show 0 < ms.length by omega) (by decide)
          dsimp only at hb
          subst hb
          have HQ : Hid (∀ w', Upd (fun _ => False) w1 w' → w'.cell? ⟨RB, 2, none⟩ = some (.slice (some ⟨b, o, none⟩) ms.length mc) ∧ w'.cell? ⟨b, o + j * 2, none⟩ = some (.int .i64 ms[j].old) ∧ w'.cell? ⟨b, o + j * 2 + 1, none⟩ = some (.slice ms[j].a ms[j].new.length ms[j].c)) := Lib.hid (fun w' hU => by
            obtain ⟨b', o', hb', hcell⟩ := (HI0.out w' hU).mv.at (show 0 < ms.length by omega) (by decide)
            cases hb'
            exact ⟨(HCC.out w' hU).2.2.1, hcell (j * 2 + 0) _ (mk_get ms j 0 hlt (by decide)), hcell (j * 2 + 1) _ (mk_get ms j 1 hlt (by decide))⟩)
          have HMX : Hid (∀ w', Upd (fun _ => False) w1 w' → MkIn w' ms[j]) := Lib.hid (fun w' hU => (HI0.out w' hU).me ms[j] (List.getElem_mem hlt))
          have hsucc := flatMap_succ mkB ms j hlt
          have hlen : (L ++ mkB ms[j]).length ≤ 18000000 := by
            have h1 := flat_take_le mkB ms (j + 1)
            rw [HAA.out] at h1
            rw [HLj.out, List.append_assoc, hsucc, List.length_append]
            omega
          rw [List.length_append, mkB_len] at hlen
          have HSU := Lib.hid hsucc
          clear hsucc z2 z3
          generalize ms[j] = x at *
          obtain ⟨xo, xn, xa, xc⟩ := x
          dsimp only at *
          obtain ⟨z2, z5, z6⟩ := HQ.out _ HI.out.2.1
          go_upto_region 12 with (fail)
          clear z2 z5 z6 hI
          have hq0 := HQ.out _ (HI.out.2.1.trans (Upd.drew _ _))
          refine wp_region_plan_last [([0, 1, 2, 3, 4, 5, 6, 8, 9, 10, 11, 12, 13, 14], 7), ([], 15)] [16] (fun w' => w'.cell? ⟨RB, 2, none⟩ = some (.slice (some ⟨b, o, none⟩) ms.length mc) ∧ w'.cell? ⟨b, o + j * 2, none⟩ = some (.int .i64 xo) ∧ w'.cell? ⟨b, o + j * 2 + 1, none⟩ = some (.slice xa xn.length xc)) (by kernel_rfl) (by kernel_rfl) hq0 ?_
          clear hq0
          have hI := HI.out.other (Upd.drew _ _)
          clear HI
          have HI := Lib.hid hI
          clear hI
          iterate 14
            first
            | (refine plan_skip rfl rfl ?_)
            | (refine plan_take (v := ?_) rfl rfl (fun w' hS => ?_) ?_
               rotate_left
               · skip
                 go_simp; try with_reducible rfl)
            simp only [Act.put, List.getElem_toArray, List.getElem_cons_zero, List.getElem_cons_succ, List.setIfInBounds_toArray, List.set_cons_zero, List.set_cons_succ]
          refine plan_act rfl (fun KK hKK => ?_)
          go_wp2_with fail
          refine (rb_int HI.out xo (by omega)).mono ?_
          rintro ee v4 ⟨e4, d4, rfl, hI⟩
          have hlm4 : (L ++ i4 xo).length ≤ L.length + 4 := by rw [List.length_append, i4_length]; omega
          generalize hL : L ++ i4 xo = m4 at *
          have Hm4 := Lib.hid hL
          clear HI hL
          have HI := Lib.hid hI
          clear hI
          have hq0 := HQ.out _ HI.out.2.1
          go_wp2_with fail
          refine hKK.out _ _ (.inr hq0) ?_
          clear hq0 hKK
          refine plan_act rfl (fun KK hKK => ?_)
          go_wp2_with fail
          refine (rb_int HI.out (xn.length : Int) (by omega)).mono ?_
          rintro ee v5 ⟨e5, d5, rfl, hI⟩
          have hlm5 : (m4 ++ i4 (xn.length : Int)).length ≤ L.length + 8 := by rw [List.length_append, i4_length]; omega
          generalize hL : m4 ++ i4 (xn.length : Int) = m5 at *
          have Hm5 := Lib.hid hL
          clear HI hL
          have HI := Lib.hid hI
          clear hI
          have hq0 := HQ.out _ HI.out.2.1
          go_wp2_with fail
          refine hKK.out _ _ (.inr hq0) ?_
          clear hq0 hKK
          iterate 1
            first
            | (refine plan_lskip rfl rfl ?_)
            | (refine plan_last (v := ?_) rfl rfl (fun w' hS => ?_) ?_
               rotate_left
               · skip
                 go_simp; try with_reducible rfl)
            simp only [Act.put, List.getElem_toArray, List.getElem_cons_zero, List.getElem_cons_succ, List.setIfInBounds_toArray, List.set_cons_zero, List.set_cons_succ]
          refine plan_end ?_
          go_wp2_with fail
          have hcx := (HMX.out _ HI.out.2.1).cap
          have hlx := (HMX.out _ HI.out.2.1).le
          unfold maxLen at hcx
          dsimp only at hcx hlx
          go_loopw [4, 7] (fun s i wz => ∃ (q : Nat) (e : Option Addr) (d : Nat) (M : List UInt8), Hid (M = m5 ++ (xn.take q).flatMap i4) ∧ q ≤ xn.length ∧ s = .slice e M.length d ∧ i = .int .i64 (q : Int) ∧ Hid (Rb w1 wz e d M)) (fun _ i _ => xn.length - (intOf i).toNat)
          case atStart => exact ⟨0, e5, d5, m5, Lib.hid (by simp), Nat.zero_le _, rfl, rfl, HI⟩
          case round =>
            clear HI
            obtain ⟨q, e, d, M, HMq, hq, rfl, rfl, HI⟩ := hrel
            have hlM : M.length ≤ 18000000 := by
              have h1 := numsB_len (xn.take q)
              unfold numsB at h1
              rw [List.length_append, i4_length, List.length_take] at h1
              rw [HMq.out, List.length_append]
              omega
            obtain ⟨z2, z5, z6⟩ := HQ.out _ HI.out.2.1
            clear z5
            by_cases hlt2 : q < xn.length
            · have hI : (q : Int) < (xn.length : Int) := by omega
              obtain ⟨b2, o2, hb2, hcell⟩ := (show Vw _ xa xn.length xc 1 (xn.map iv) from HMX.out _ HI.out.2.1).at (by omega) (by decide)
              subst hb2
              have qv := hcell q _ (iv_at xn q hlt2)
              have hs2 := flatMap_succ i4 xn q hlt2
              clear hcell
              generalize xn[q] = v at *
              have HS2 := Lib.hid hs2
              clear hs2
              go_wp2_with fail
              refine (rb_int HI.out v (by omega)).mono ?_
              rintro ee v6 ⟨e6, d6, rfl, hI⟩
              have hlm6 : (M ++ i4 v).length ≤ M.length + 4 := by rw [List.length_append, i4_length]; omega
              generalize hL : M ++ i4 v = m6 at *
              have Hm6 := Lib.hid hL
              clear HI hL
              have HI := Lib.hid hI
              clear hI
              have HN : Hid (m6 = m5 ++ (xn.take (q + 1)).flatMap i4) := Lib.hid (by rw [← Hm6.out, HMq.out, List.append_assoc, HS2.out])
              clear z2 z6 qv
              go_wp2_with fail
              go_roundw
              case rel => exact ⟨q + 1, e6, d6, m6, HN, by omega, rfl, by first | rfl | go_num, HI⟩
              case measure => simp [intOf]; omega
            · obtain rfl : q = xn.length := by omega
              have hI : ¬ (xn.length : Int) < (xn.length : Int) := by omega
              have HN : Hid (M = m3 ++ (ms.take (j + 1)).flatMap mkB) := Lib.hid (by
                rw [HMq.out, List.take_length, ← HSU.out, ← Hm5.out, ← Hm4.out, HLj.out]
                simp [mkB, numsB])
              clear hlt2 hq
              go_wp2_with fail
              clear z2 z6 hI
              go_wp2_with fail
              go_roundw
              case rel => exact ⟨j + 1, e, d, M, HN, by omega, rfl, by first | rfl | go_num, HI⟩
              case measure => simp [intOf]; omega
        · obtain rfl : j = ms.length := by omega
          have HLL := HLj.out
          rw [List.take_length] at HLL
          have hlL : L.length ≤ 18000000 := by rw [HLL, List.length_append, HAA.out]; omega
          have HLm := Lib.hid HLL
          have hI : ¬ (ms.length : Int) < (ms.length : Int) := by omega
          clear HLj HLL hlt hj
          go_wp2_with fail
          clear z2 hI
          refine (rb_int HI.out (ns.length : Int) (by omega)).mono ?_
          rintro ee v7 ⟨e7, d7, rfl, hI⟩
          have hlm7 : (L ++ i4 (ns.length : Int)).length ≤ 18000004 := by rw [List.length_append, i4_length]; omega
          generalize hL : L ++ i4 (ns.length : Int) = m7 at *
          have Hm7 := Lib.hid hL
          clear HI hL
          have HI := Lib.hid hI
          clear hI
          clear z3
          go_wp2_with fail
          go_loopw [4, 8] (fun s i wr => ∃ (j : Nat) (e : Option Addr) (d : Nat) (L : List UInt8), Hid (L = m7 ++ (ns.take j).flatMap nmB) ∧ j ≤ ns.length ∧ s = .slice e L.length d ∧ i = .int .i64 (j : Int) ∧ Hid (Rb w1 wr e d L)) (fun _ i _ => ns.length - (intOf i).toNat)
          case atStart => exact ⟨0, e7, d7, m7, Lib.hid (by simp), Nat.zero_le _, rfl, rfl, HI⟩
          case round =>
            clear HI
            obtain ⟨j, e, d, L, HLj, hj, rfl, rfl, HI⟩ := hrel
            obtain ⟨z0, z1, z2, z3, z4⟩ := HCC.out _ HI.out.2.1
            clear z0 z1 z2
            by_cases hlt : j < ns.length
            · have hI : (j : Int) < (ns.length : Int) := by omega
              obtain ⟨b, o, hb, _⟩ := (HI0.out w1 (Upd.refl _ _)).nv.at (show 0 < ns.length by omega) (by decide)
              dsimp only at hb
              subst hb
              have HQ : Hid (∀ w', Upd (fun _ => False) w1 w' → w'.cell? ⟨RB, 3, none⟩ = some (.slice (some ⟨b, o, none⟩) ns.length nc) ∧ w'.cell? ⟨b, o + j * 2, none⟩ = some (.string (str ns[j].name)) ∧ w'.cell? ⟨b, o + j * 2 + 1, none⟩ = some (.int .i64 ns[j].com)) := Lib.hid (fun w' hU => by
                obtain ⟨b', o', hb', hcell⟩ := (HI0.out w' hU).nv.at (show 0 < ns.length by omega) (by decide)
                cases hb'
                exact ⟨(HCC.out w' hU).2.2.2.1, hcell (j * 2 + 0) _ (nm_get ns j 0 hlt (by decide)), hcell (j * 2 + 1) _ (nm_get ns j 1 hlt (by decide))⟩)
              have hsucc := flatMap_succ nmB ns j hlt
              have hlen : (L ++ nmB ns[j]).length ≤ 19000000 := by
                have h1 := flat_take_le nmB ns (j + 1)
                rw [HBB.out] at h1
                rw [HLj.out, List.append_assoc, hsucc, List.length_append]
                omega
              rw [List.length_append, nmB_len] at hlen
              have HSU := Lib.hid hsucc
              clear hsucc z3 z4
              generalize ns[j] = x at *
              obtain ⟨xn, xc⟩ := x
              dsimp only at *
              obtain ⟨z2, z5, z6⟩ := HQ.out _ HI.out.2.1
              go_upto_region 21 with (fail)
              clear z2 z5 z6 hI
              have hq0 := HQ.out _ (HI.out.2.1.trans (Upd.drew _ _))
              refine wp_region_plan_last [([0, 1, 2, 3, 4, 5, 6, 8, 9, 10, 11, 12, 13], 7), ([], 14)] [15] (fun w' => w'.cell? ⟨RB, 3, none⟩ = some (.slice (some ⟨b, o, none⟩) ns.length nc) ∧ w'.cell? ⟨b, o + j * 2, none⟩ = some (.string (str xn)) ∧ w'.cell? ⟨b, o + j * 2 + 1, none⟩ = some (.int .i64 xc)) (by kernel_rfl) (by kernel_rfl) hq0 ?_
              clear hq0
              have hI := HI.out.other (Upd.drew _ _)
              clear HI
              have HI := Lib.hid hI
              clear hI
              iterate 13
                first
                | (refine plan_skip rfl rfl ?_)
                | (refine plan_take (v := ?_) rfl rfl (fun w' hS => ?_) ?_
                   rotate_left
                   · skip
                     go_simp; try with_reducible rfl)
                simp only [Act.put, List.getElem_toArray, List.getElem_cons_zero, List.getElem_cons_succ, List.setIfInBounds_toArray, List.set_cons_zero, List.set_cons_succ]
              refine plan_act rfl (fun KK hKK => ?_)
              go_wp2_with fail
              refine (rb_text HI.out xn (by omega) (by omega)).mono ?_
              rintro ee v8 ⟨e8, d8, rfl, hI⟩
              have hlm8 : (L ++ tx xn).length ≤ L.length + 4 + xn.length := by rw [List.length_append, tx_len]; omega
              generalize hL : L ++ tx xn = m8 at *
              have Hm8 := Lib.hid hL
              clear HI hL
              have HI := Lib.hid hI
              clear hI
              have hq0 := HQ.out _ HI.out.2.1
              go_wp2_with fail
              refine hKK.out _ _ (.inr hq0) ?_
              clear hq0 hKK
              refine plan_act rfl (fun KK hKK => ?_)
              go_wp2_with fail
              refine (rb_int HI.out xc (by omega)).mono ?_
              rintro ee v9 ⟨e9, d9, rfl, hI⟩
              have hlm9 : (m8 ++ i4 xc).length ≤ L.length + 8 + xn.length := by rw [List.length_append, i4_length]; omega
              generalize hL : m8 ++ i4 xc = m9 at *
              have Hm9 := Lib.hid hL
              clear HI hL
              have HI := Lib.hid hI
              clear hI
              have hq0 := HQ.out _ HI.out.2.1
              go_wp2_with fail
              refine hKK.out _ _ (.inr hq0) ?_
              clear hq0 hKK
              iterate 1
                first
                | (refine plan_lskip rfl rfl ?_)
                | (refine plan_last (v := ?_) rfl rfl (fun w' hS => ?_) ?_
                   rotate_left
                   · skip
                     go_simp; try with_reducible rfl)
                simp only [Act.put, List.getElem_toArray, List.getElem_cons_zero, List.getElem_cons_succ, List.setIfInBounds_toArray, List.set_cons_zero, List.set_cons_succ]
              refine plan_end ?_
              have HN : Hid (m9 = m7 ++ (ns.take (j + 1)).flatMap nmB) := Lib.hid (by
                rw [← HSU.out, ← Hm9.out, ← Hm8.out, HLj.out]
                simp [nmB])
              go_wp2_with fail
              go_roundw
              case rel => exact ⟨j + 1, e9, d9, m9, HN, by omega, rfl, by first | rfl | go_num, HI⟩
              case measure => simp [intOf]; omega
            · obtain rfl : j = ns.length := by omega
              have HLL := HLj.out
              rw [List.take_length] at HLL
              have hlL : L.length ≤ 19000000 := by rw [HLL, List.length_append, HBB.out]; omega
              have HLn := Lib.hid HLL
              have hI : ¬ (ns.length : Int) < (ns.length : Int) := by omega
              clear HLj HLL hlt hj
              go_wp2_with fail
              clear z3 hI
              refine (rb_int HI.out k (by omega)).mono ?_
              rintro ee v10 ⟨e10, d10, rfl, hI⟩
              have hlm10 : (L ++ i4 k).length ≤ 19000008 := by rw [List.length_append, i4_length]; omega
              generalize hL : L ++ i4 k = m10 at *
              have Hm10 := Lib.hid hL
              clear HI hL
              have HI := Lib.hid hI
              clear hI
              have hLL : RL = m10 := by rw [HD.out, ← Hm10.out, HLn.out, ← Hm7.out, HLm.out, ← Hm3.out, HLk.out, ← Hm2.out, ← Hm1.out]
              subst hLL
              have HF := Lib.hid (HI.out.packed HU.out)
              clear z4 HI
              go_wp2_with fail
              go_ret2
              exact ⟨e10, d10, rfl, HF.out⟩
end Go.Proofs.YtccejkikphpnfaaGreatDoor

namespace Go.Proofs.YtccejkikphpnfaaGreatDoor
set_option linter.unusedSimpArgs false
set_option linter.unusedVariables false
set_option maxRecDepth 100000
open Go.ChangeShapes Go.WideShapes Go.ChangeAt Go.RowKit

theorem rb_int2 {w1 w : World} {e : Option Addr} {d : Nat} {l : List UInt8} (h : Rb w1 w e d l) (v : Int) (hl : l.length ≤ 100000000) :
    Calls Tryz.prog 50 #[.slice e l.length d, .int .i64 v] w fun en w' => ∃ e' d', en = .returned (.slice e' (l ++ i4 v).length d') ∧ Rb w1 w' e' d' (l ++ i4 v) ∧ Upd (fun _ => False) w w' := by
  have hh := refInt_any e d l v w h.vw hl
  refine hh.mono (fun en w' h' => ?_)
  obtain ⟨a, c, rfl, hown, hU, hf, _⟩ := h'
  exact ⟨a, c, rfl, ⟨hown, h.2.1.trans hU, fun g hg => Nat.le_trans h.2.1.size (hf g hg)⟩, hU⟩
theorem rb_bool2 {w1 w : World} {e : Option Addr} {d : Nat} {l : List UInt8} (h : Rb w1 w e d l) (b : Bool) (hl : l.length ≤ 100000000) :
    Calls Tryz.prog 56 #[.slice e l.length d, .bool b] w fun en w' => ∃ e' d', en = .returned (.slice e' (l ++ b1 b).length d') ∧ Rb w1 w' e' d' (l ++ b1 b) ∧ Upd (fun _ => False) w w' := by
  have hh := refBool_any e d l b w h.vw hl
  refine hh.mono (fun en w' h' => ?_)
  obtain ⟨a, c, rfl, hown, hU, hf, _⟩ := h'
  exact ⟨a, c, rfl, ⟨hown, h.2.1.trans hU, fun g hg => Nat.le_trans h.2.1.size (hf g hg)⟩, hU⟩
theorem rb_text2 {w1 w : World} {e : Option Addr} {d : Nat} {l : List UInt8} (h : Rb w1 w e d l) (s : List UInt8) (hl : l.length ≤ 100000000) (hs : s.length ≤ 100000000) :
    Calls Tryz.prog 51 #[.slice e l.length d, .string (str s)] w fun en w' => ∃ e' d', en = .returned (.slice e' (l ++ tx s).length d') ∧ Rb w1 w' e' d' (l ++ tx s) ∧ Upd (fun _ => False) w w' := by
  have hh := refText_any e d l (str s) w h.vw hl (by rw [str_size]; exact hs)
  rw [t4_str] at hh
  refine hh.mono (fun en w' h' => ?_)
  obtain ⟨a, c, rfl, hown, hU, hf, _⟩ := h'
  exact ⟨a, c, rfl, ⟨hown, h.2.1.trans hU, fun g hg => Nat.le_trans h.2.1.size (hf g hg)⟩, hU⟩
theorem infoPend7 : (Tryz.prog.info? 30).map (·.size) = some 7 := by kernel_rfl

set_option maxHeartbeats 32000000 in
theorem r21PackWait_gen (p : Wt) (w : World) (h : WtIn w p) (hmax : (waitG p).length ≤ 80000000) : Calls Tryz.prog 14 #[.agg (wtA p)] w (Packed w (waitR p) (waitE p)) := by
  have hU1 := Upd.alloc (fun _ => False) w (.cells (wtA p) 30)
  have hrow := heap_alloc_new w (.cells (wtA p) 30)
  have hv1 := h.upd hU1
  have hmr := waitMay_any p (w.alloc (.cells (wtA p) 30)) hv1
  have HRR : Hid (waitR p = if waitB p then waitG p else []) := Lib.hid rfl
  have HRE : Hid (waitE p = if waitB p then 0 else 5) := Lib.hid rfl
  have HD : Hid (waitG p = [3] ++ b1 p.re ++ i4 p.src ++ i4 p.dst ++ i4 p.com ++ i4 p.ss.length ++ p.ss.flatMap stB ++ i4 p.cs.length ++ p.cs.flatMap clB) := Lib.hid rfl
  rw [waitG_len] at hmax
  generalize waitR p = RL at *
  generalize waitE p = RE at *
  generalize waitG p = LL at *
  generalize waitB p = R at *
  obtain ⟨on, re, src, dst, sa, sc, ss, com, ca, cc, cs⟩ := p
  unfold wtA at *
  dsimp only at *
  have HP := Lib.hid (And.intro hU1 (And.intro hrow hv1))
  clear hU1 hrow hv1 h
  generalize hAA : (ss.flatMap stB).length = A at *
  generalize hBB : (cs.flatMap clB).length = BB at *
  have HAA := Lib.hid hAA
  have HBB := Lib.hid hBB
  clear hAA hBB
  go_enter Tryz.func14, Tryz.ntmps14
  go_upto_region 1 with (fail)
  obtain ⟨hU1, hrow, hv1⟩ := HP.out
  generalize w.alloc (.cells #[.bool on, .bool re, .int .i64 src, .int .i64 dst, .slice sa ss.length sc, .int .i64 com, .slice ca cs.length cc] 30) = y0 at *
  obtain ⟨RB, hRB⟩ : ∃ B, w.heap.size = B := ⟨_, rfl⟩
  rw [hRB] at hrow ⊢
  have HB : Hid (w.heap.size = RB) := Lib.hid hRB
  have HU0 := Lib.hid hU1
  have HR0 := Lib.hid hrow
  have hz0 := lt_of_heap hrow
  have HZ0 := Lib.hid hz0
  clear hRB hU1 hz0
  have hrow' := hrow
  clear hrow
  have HV0 := Lib.hid hv1
  clear hv1 HP
  go_wp2_with (refine wpList_load_row rfl 30 (.tmp 1) rfl RB #[.bool on, .bool re, .int .i64 src, .int .i64 dst, .slice sa ss.length sc, .int .i64 com, .slice ca cs.length cc] 30 (0, 0) _ rfl hrow' Tryz.underlying30 rfl (by rw [infoPend7]; rfl) ?_)
  refine hmr.mono ?_
  rintro e w1 ⟨rfl, hU2⟩
  have HR : Hid (∀ w', Upd (fun _ => False) w1 w' → w'.heap[RB]? = some (.cells #[.bool on, .bool re, .int .i64 src, .int .i64 dst, .slice sa ss.length sc, .int .i64 com, .slice ca cs.length cc] 30)) := Lib.hid (fun w' hU => (hU.block RB (Nat.lt_of_lt_of_le HZ0.out hU2.size) (fun h => h)).trans ((hU2.block RB HZ0.out (fun h => h)).trans HR0.out))
  have HCC : Hid (∀ w', Upd (fun _ => False) w1 w' → w'.cell? ⟨RB, 0, none⟩ = some (.bool on) ∧ w'.cell? ⟨RB, 1, none⟩ = some (.bool re) ∧ w'.cell? ⟨RB, 2, none⟩ = some (.int .i64 src) ∧ w'.cell? ⟨RB, 3, none⟩ = some (.int .i64 dst) ∧ w'.cell? ⟨RB, 4, none⟩ = some (.slice sa ss.length sc) ∧ w'.cell? ⟨RB, 5, none⟩ = some (.int .i64 com) ∧ w'.cell? ⟨RB, 6, none⟩ = some (.slice ca cs.length cc)) := Lib.hid (fun w' hU => row7 (HR.out w' hU))
  have HI0 : Hid (∀ w', Upd (fun _ => False) w1 w' → WtIn w' ⟨on, re, src, dst, sa, sc, ss, com, ca, cc, cs⟩) := Lib.hid (fun w' hU => HV0.out.upd (hU2.trans hU))
  have HU := Lib.hid (HU0.out.trans hU2)
  clear hmr hU2 HU0 HR0 HZ0 hrow' HV0
  cases R with
  | false =>
    have hRL := HRR.out
    have hRE := HRE.out
    simp only [Bool.false_eq_true, if_false] at hRL hRE
    subst hRL hRE
    go_wp2_with fail
    go_ret2
    exact ⟨none, 0, rfl, Vw.nl _ _, (fun g h => by cases h), HU.out⟩
  | true =>
  have hRL := HRR.out
  have hRE := HRE.out
  simp only [if_true] at hRL hRE
  subst hRL hRE
  clear HRR HRE
  have hcm := (HI0.out w1 (Upd.refl _ _)).sv.cap
  have hlm := (HI0.out w1 (Upd.refl _ _)).sv.le
  have hcn := (HI0.out w1 (Upd.refl _ _)).cv.cap
  have hln := (HI0.out w1 (Upd.refl _ _)).cv.le
  unfold maxLen at hcm hcn
  dsimp only at hcm hlm hcn hln
  have hI3 : Rb w1 (w1.alloc (.cells #[.int .u8 3] 5)) (some ⟨w1.heap.size, 0, none⟩) 1 [3] := Rb.lit w1 w1 (Upd.refl _ _) 3
  have HI := Lib.hid hI3
  clear hI3
  have hrb := rb_bool2 HI.out re (by simp)
  simp only [List.length_cons, List.length_nil, Nat.zero_add] at hrb
  obtain ⟨z0, z1, z2, z3, z4, z5, z6⟩ := HCC.out _ HI.out.2.1
  clear z0 z2 z3 z4 z5 z6
  go_wp2_with fail
  refine hrb.mono ?_
  rintro ee v1 ⟨e1, d1, rfl, hI, hV⟩
  have hlm1 : ([3] ++ b1 re).length ≤ 2 := by rw [List.length_append, b1_len]; simp
  generalize hL : [3] ++ b1 re = m1 at *
  have Hm1 := Lib.hid hL
  clear HI hL hrb z1
  have HI := Lib.hid hI
  clear hI hV
  go_wp2_with fail
  have hq0 := (fun (w' : World) (h : Upd (fun _ => False) w1 w') => And.intro (HCC.out w' h).2.2.1 (And.intro (HCC.out w' h).2.2.2.1 (HCC.out w' h).2.2.2.2.2.1)) _ (HI.out.2.1.trans (Upd.drew _ _))
  refine wp_region_plan_last [([0, 1, 2, 4, 5, 7, 8], 3), ([], 6), ([], 9)] [10] (fun w' => w'.cell? ⟨RB, 2, none⟩ = some (.int .i64 src) ∧ w'.cell? ⟨RB, 3, none⟩ = some (.int .i64 dst) ∧ w'.cell? ⟨RB, 5, none⟩ = some (.int .i64 com)) (by kernel_rfl) (by kernel_rfl) hq0 ?_
  clear hq0
  have hI := HI.out.other (Upd.drew _ _)
  clear HI
  have HI := Lib.hid hI
  clear hI
  iterate 7
    first
    | (refine plan_skip rfl rfl ?_)
    | (refine plan_take (v := ?_) rfl rfl (fun w' hS => ?_) ?_
       rotate_left
       · skip
         go_simp; try with_reducible rfl)
    simp only [Act.put, List.getElem_toArray, List.getElem_cons_zero, List.getElem_cons_succ, List.setIfInBounds_toArray, List.set_cons_zero, List.set_cons_succ]
  refine plan_act rfl (fun KK hKK => ?_)
  go_wp2_with fail
  refine (rb_int2 HI.out src (by omega)).mono ?_
  rintro ee v2 ⟨e2, d2, rfl, hI, hV⟩
  have hlm2 : (m1 ++ i4 src).length ≤ 6 := by rw [List.length_append, i4_length]; omega
  generalize hL : m1 ++ i4 src = m2 at *
  have Hm2 := Lib.hid hL
  clear HI hL
  have HI := Lib.hid hI
  clear hI hV
  have hq0 := (fun (w' : World) (h : Upd (fun _ => False) w1 w') => And.intro (HCC.out w' h).2.2.1 (And.intro (HCC.out w' h).2.2.2.1 (HCC.out w' h).2.2.2.2.2.1)) _ HI.out.2.1
  go_wp2_with fail
  refine hKK.out _ _ (.inr hq0) ?_
  clear hq0 hKK
  refine plan_act rfl (fun KK hKK => ?_)
  go_wp2_with fail
  refine (rb_int2 HI.out dst (by omega)).mono ?_
  rintro ee v3 ⟨e3, d3, rfl, hI, hV⟩
  have hlm3 : (m2 ++ i4 dst).length ≤ 10 := by rw [List.length_append, i4_length]; omega
  generalize hL : m2 ++ i4 dst = m3 at *
  have Hm3 := Lib.hid hL
  clear HI hL
  have HI := Lib.hid hI
  clear hI hV
  have hq0 := (fun (w' : World) (h : Upd (fun _ => False) w1 w') => And.intro (HCC.out w' h).2.2.1 (And.intro (HCC.out w' h).2.2.2.1 (HCC.out w' h).2.2.2.2.2.1)) _ HI.out.2.1
  go_wp2_with fail
  refine hKK.out _ _ (.inr hq0) ?_
  clear hq0 hKK
  refine plan_act rfl (fun KK hKK => ?_)
  go_wp2_with fail
  refine (rb_int2 HI.out com (by omega)).mono ?_
  rintro ee v4 ⟨e4, d4, rfl, hI, hV⟩
  have hlm4 : (m3 ++ i4 com).length ≤ 14 := by rw [List.length_append, i4_length]; omega
  generalize hL : m3 ++ i4 com = m4 at *
  have Hm4 := Lib.hid hL
  clear HI hL
  have HI := Lib.hid hI
  clear hI hV
  have hq0 := (fun (w' : World) (h : Upd (fun _ => False) w1 w') => And.intro (HCC.out w' h).2.2.1 (And.intro (HCC.out w' h).2.2.2.1 (HCC.out w' h).2.2.2.2.2.1)) _ HI.out.2.1
  go_wp2_with fail
  refine hKK.out _ _ (.inr hq0) ?_
  clear hq0 hKK
  iterate 1
    first
    | (refine plan_lskip rfl rfl ?_)
    | (refine plan_last (v := ?_) rfl rfl (fun w' hS => ?_) ?_
       rotate_left
       · skip
         go_simp; try with_reducible rfl)
    simp only [Act.put, List.getElem_toArray, List.getElem_cons_zero, List.getElem_cons_succ, List.setIfInBounds_toArray, List.set_cons_zero, List.set_cons_succ]
  refine plan_end ?_
  obtain ⟨z0, z1, z2, z3, z4, z5, z6⟩ := HCC.out _ HI.out.2.1
  clear z0 z1 z2 z3 z5 z6
  go_wp2_with fail
  refine (rb_int2 HI.out (ss.length : Int) (by omega)).mono ?_
  rintro ee v5 ⟨e5, d5, rfl, hI, hV⟩
  have hlm5 : (m4 ++ i4 (ss.length : Int)).length ≤ 18 := by rw [List.length_append, i4_length]; omega
  generalize hL : m4 ++ i4 (ss.length : Int) = m5 at *
  have Hm5 := Lib.hid hL
  clear HI hL
  have HI := Lib.hid hI
  clear hI hV
  clear z4
  go_wp2_with fail
  go_loopw [4, 5] (fun s i wr => ∃ (j : Nat) (e : Option Addr) (d : Nat) (L : List UInt8), Hid (L = m5 ++ (ss.take j).flatMap stB) ∧ j ≤ ss.length ∧ s = .slice e L.length d ∧ i = .int .i64 (j : Int) ∧ Hid (Rb w1 wr e d L)) (fun _ i _ => ss.length - (intOf i).toNat)
  case atStart => exact ⟨0, e5, d5, m5, Lib.hid (by simp), Nat.zero_le _, rfl, rfl, HI⟩
  case round =>
    clear HI
    obtain ⟨j, e, d, L, HLj, hj, rfl, rfl, HI⟩ := hrel
    obtain ⟨z0, z1, z2, z3, z4, z5, z6⟩ := HCC.out _ HI.out.2.1
    clear z0 z1 z2 z3 z5
    by_cases hlt : j < ss.length
    · have hI : (j : Int) < (ss.length : Int) := by omega
      obtain ⟨b, o, hb, _⟩ := (HI0.out w1 (Upd.refl _ _)).sv.at (show 0 < ss.length by omega) (by decide)
      dsimp only at hb
      subst hb
      have HQ : Hid (∀ w', Upd (fun _ => False) w1 w' → w'.cell? ⟨RB, 4, none⟩ = some (.slice (some ⟨b, o, none⟩) ss.length sc) ∧ w'.cell? ⟨b, o + j * 2, none⟩ = some (.int .i64 ss[j].com) ∧ w'.cell? ⟨b, o + j * 2 + 1, none⟩ = some (.slice ss[j].a ss[j].fs.length ss[j].c)) := Lib.hid (fun w' hU => by
        obtain ⟨b', o', hb', hcell⟩ := (HI0.out w' hU).sv.at (show 0 < ss.length by omega) (by decide)
        cases hb'
        exact ⟨(HCC.out w' hU).2.2.2.2.1, hcell (j * 2 + 0) _ (st_get ss j 0 hlt (by decide)), hcell (j * 2 + 1) _ (st_get ss j 1 hlt (by decide))⟩)
      have HMX : Hid (∀ w', Upd (fun _ => False) w1 w' → StIn w' ss[j]) := Lib.hid (fun w' hU => (HI0.out w' hU).se ss[j] (List.getElem_mem hlt))
      have hsucc := flatMap_succ stB ss j hlt
      have hlen : (L ++ stB ss[j]).length ≤ 18 + A := by
        have h1 := flat_take_le stB ss (j + 1)
        rw [HAA.out] at h1
        rw [HLj.out, List.append_assoc, hsucc, List.length_append]
        omega
      rw [List.length_append, stB_len] at hlen
      have HSU := Lib.hid hsucc
      clear hsucc z4 z6
      generalize ss[j] = x at *
      obtain ⟨xo, xn, xa, xc⟩ := x
      dsimp only at *
      obtain ⟨z2, z5, z6⟩ := HQ.out _ HI.out.2.1
      go_upto_region 9 with (fail)
      clear z2 z5 z6 hI
      unfold flsB at hlen
      rw [List.length_append, i4_length] at hlen
      have hq0 := HQ.out _ (HI.out.2.1.trans (Upd.drew _ _))
      refine wp_region_plan_last [([0, 1, 2, 3, 4, 5, 6, 8, 9, 10, 11, 12, 13, 14], 7), ([], 15)] [16] (fun w' => w'.cell? ⟨RB, 4, none⟩ = some (.slice (some ⟨b, o, none⟩) ss.length sc) ∧ w'.cell? ⟨b, o + j * 2, none⟩ = some (.int .i64 xo) ∧ w'.cell? ⟨b, o + j * 2 + 1, none⟩ = some (.slice xa xn.length xc)) (by kernel_rfl) (by kernel_rfl) hq0 ?_
      clear hq0
      have hI := HI.out.other (Upd.drew _ _)
      clear HI
      have HI := Lib.hid hI
      clear hI
      iterate 14
        first
        | (refine plan_skip rfl rfl ?_)
        | (refine plan_take (v := ?_) rfl rfl (fun w' hS => ?_) ?_
           rotate_left
           · skip
             go_simp; try with_reducible rfl)
        simp only [Act.put, List.getElem_toArray, List.getElem_cons_zero, List.getElem_cons_succ, List.setIfInBounds_toArray, List.set_cons_zero, List.set_cons_succ]
      refine plan_act rfl (fun KK hKK => ?_)
      go_wp2_with fail
      refine (rb_int2 HI.out xo (by omega)).mono ?_
      rintro ee v6 ⟨e6, d6, rfl, hI, hV⟩
      have hlm6 : (L ++ i4 xo).length ≤ L.length + 4 := by rw [List.length_append, i4_length]; omega
      generalize hL : L ++ i4 xo = m6 at *
      have Hm6 := Lib.hid hL
      clear HI hL
      have HI := Lib.hid hI
      clear hI hV
      have hq0 := HQ.out _ HI.out.2.1
      go_wp2_with fail
      refine hKK.out _ _ (.inr hq0) ?_
      clear hq0 hKK
      refine plan_act rfl (fun KK hKK => ?_)
      go_wp2_with fail
      refine (rb_int2 HI.out (xn.length : Int) (by omega)).mono ?_
      rintro ee v7 ⟨e7, d7, rfl, hI, hV⟩
      have hlm7 : (m6 ++ i4 (xn.length : Int)).length ≤ L.length + 8 := by rw [List.length_append, i4_length]; omega
      generalize hL : m6 ++ i4 (xn.length : Int) = m7 at *
      have Hm7 := Lib.hid hL
      clear HI hL
      have HI := Lib.hid hI
      clear hI hV
      have hq0 := HQ.out _ HI.out.2.1
      go_wp2_with fail
      refine hKK.out _ _ (.inr hq0) ?_
      clear hq0 hKK
      iterate 1
        first
        | (refine plan_lskip rfl rfl ?_)
        | (refine plan_last (v := ?_) rfl rfl (fun w' hS => ?_) ?_
           rotate_left
           · skip
             go_simp; try with_reducible rfl)
        simp only [Act.put, List.getElem_toArray, List.getElem_cons_zero, List.getElem_cons_succ, List.setIfInBounds_toArray, List.set_cons_zero, List.set_cons_succ]
      refine plan_end ?_
      go_wp2_with fail
      have hcx := (HMX.out _ HI.out.2.1).v.cap
      have hlx := (HMX.out _ HI.out.2.1).v.le
      unfold maxLen at hcx
      dsimp only at hcx hlx
      go_loopw [4, 6] (fun s i wz => ∃ (q : Nat) (e : Option Addr) (d : Nat) (M : List UInt8), Hid (M = m7 ++ (xn.take q).flatMap encF) ∧ q ≤ xn.length ∧ s = .slice e M.length d ∧ i = .int .i64 (q : Int) ∧ Hid (Rb w1 wz e d M)) (fun _ i _ => xn.length - (intOf i).toNat)
      case atStart => exact ⟨0, e7, d7, m7, Lib.hid (by simp), Nat.zero_le _, rfl, rfl, HI⟩
      case round =>
        clear HI
        obtain ⟨q, e, d, M, HMq, hq, rfl, rfl, HI⟩ := hrel
        obtain ⟨z2, z5, z6⟩ := HQ.out _ HI.out.2.1
        clear z5
        by_cases hlt2 : q < xn.length
        · have hI : (q : Int) < (xn.length : Int) := by omega
          obtain ⟨b2, o2, hb2, hcell⟩ := (HMX.out _ HI.out.2.1).v.at (show 0 < xn.length by omega) (by decide)
          dsimp only at hb2
          subst hb2
          have q0 : World.cell? _ ⟨b2, o2 + q * 3, none⟩ = some (sv xn[q].path) := hcell (q * 3 + 0) _ (fl_get xn q 0 hlt2 (by decide))
          have q1 : World.cell? _ ⟨b2, o2 + q * 3 + 1, none⟩ = some (Value.bool xn[q].exec) := hcell (q * 3 + 1) _ (fl_get xn q 1 hlt2 (by decide))
          have q2 : World.cell? _ ⟨b2, o2 + q * 3 + 2, none⟩ = some (sv xn[q].text) := hcell (q * 3 + 2) _ (fl_get xn q 2 hlt2 (by decide))
          have hs2 := flatMap_succ encF xn q hlt2
          have hlen2 : (M ++ encF xn[q]).length ≤ 18 + A := by
            have h1 := flat_take_le encF xn (q + 1)
            rw [HMq.out, List.append_assoc, hs2, List.length_append]
            omega
          rw [List.length_append, encF_len] at hlen2
          clear hcell
          generalize xn[q] = f at *
          have HS2 := Lib.hid hs2
          clear hs2
          obtain ⟨fp, fe, ft⟩ := f
          dsimp only at *
          unfold sv at q0 q2
          have hnew := heap_alloc_new wr (.cells #[Value.string (str fp), .bool fe, Value.string (str ft)] 103)
          have HNEW := Lib.hid hnew
          clear hnew
          go_upto_region 14 with (fail)
          have hI2 := HI.out.other (Upd.alloc (fun _ => False) wr (.cells #[Value.string (str fp), .bool fe, Value.string (str ft)] 103))
          have hnew := HNEW.out
          obtain ⟨xb, hxb⟩ : ∃ xb, wr.heap.size = xb := ⟨_, rfl⟩
          rw [hxb] at hnew ⊢
          generalize wr.alloc (.cells #[Value.string (str fp), .bool fe, Value.string (str ft)] 103) = y1 at *
          have HCX : Hid (∀ w', Upd (fun _ => False) y1 w' → w'.cell? ⟨xb, 0, none⟩ = some (Value.string (str fp)) ∧ w'.cell? ⟨xb, 1, none⟩ = some (Value.bool fe) ∧ w'.cell? ⟨xb, 2, none⟩ = some (Value.string (str ft))) := Lib.hid (fun w' hU => by
            have hr := (hU.block xb (lt_of_heap hnew) (fun h => h)).trans hnew
            exact ⟨cell_of_row _ xb 0 _ _ _ hr, cell_of_row _ xb 1 _ _ _ hr, cell_of_row _ xb 2 _ _ _ hr⟩)
          have HT : Hid (Upd (fun _ => False) y1 y1) := Lib.hid (Upd.refl _ _)
          clear HI HNEW hxb hnew q0 q1 q2 z2 z6 hI
          have HI := Lib.hid hI2
          clear hI2
          have hq0 := HCX.out _ (HT.out.trans (Upd.drew _ _))
          refine wp_region_plan_last [([0, 1, 2, 4, 5, 7, 8], 3), ([], 6), ([], 9)] [10] (fun w' => w'.cell? ⟨xb, 0, none⟩ = some (Value.string (str fp)) ∧ w'.cell? ⟨xb, 1, none⟩ = some (Value.bool fe) ∧ w'.cell? ⟨xb, 2, none⟩ = some (Value.string (str ft))) (by kernel_rfl) (by kernel_rfl) hq0 ?_
          clear hq0
          have hI := HI.out.other (Upd.drew _ _)
          have HT := Lib.hid (HT.out.trans (Upd.drew _ _))
          clear HI
          have HI := Lib.hid hI
          clear hI
          iterate 7
            first
            | (refine plan_skip rfl rfl ?_)
            | (refine plan_take (v := ?_) rfl rfl (fun w' hS => ?_) ?_
               rotate_left
               · skip
                 go_simp; try with_reducible rfl)
            simp only [Act.put, List.getElem_toArray, List.getElem_cons_zero, List.getElem_cons_succ, List.setIfInBounds_toArray, List.set_cons_zero, List.set_cons_succ]
          refine plan_act rfl (fun KK hKK => ?_)
          go_wp2_with fail
          refine (rb_text2 HI.out fp (by omega) (by omega)).mono ?_
          rintro ee v8 ⟨e8, d8, rfl, hI, hV⟩
          have hlm8 : (M ++ tx fp).length ≤ M.length + 4 + fp.length := by rw [List.length_append, tx_len]; omega
          generalize hL : M ++ tx fp = m8 at *
          have Hm8 := Lib.hid hL
          clear HI hL
          have HI := Lib.hid hI
          have HT := Lib.hid (HT.out.trans hV)
          clear hI hV
          have hq0 := HCX.out _ HT.out
          go_wp2_with fail
          refine hKK.out _ _ (.inr hq0) ?_
          clear hq0 hKK
          refine plan_act rfl (fun KK hKK => ?_)
          go_wp2_with fail
          refine (rb_bool2 HI.out fe (by omega)).mono ?_
          rintro ee v9 ⟨e9, d9, rfl, hI, hV⟩
          have hlm9 : (m8 ++ b1 fe).length ≤ M.length + 5 + fp.length := by rw [List.length_append, b1_len]; omega
          generalize hL : m8 ++ b1 fe = m9 at *
          have Hm9 := Lib.hid hL
          clear HI hL
          have HI := Lib.hid hI
          have HT := Lib.hid (HT.out.trans hV)
          clear hI hV
          have hq0 := HCX.out _ HT.out
          go_wp2_with fail
          refine hKK.out _ _ (.inr hq0) ?_
          clear hq0 hKK
          refine plan_act rfl (fun KK hKK => ?_)
          go_wp2_with fail
          refine (rb_text2 HI.out ft (by omega) (by omega)).mono ?_
          rintro ee v10 ⟨e10, d10, rfl, hI, hV⟩
          have hlm10 : (m9 ++ tx ft).length ≤ M.length + 9 + fp.length + ft.length := by rw [List.length_append, tx_len]; omega
          generalize hL : m9 ++ tx ft = m10 at *
          have Hm10 := Lib.hid hL
          clear HI hL
          have HI := Lib.hid hI
          have HT := Lib.hid (HT.out.trans hV)
          clear hI hV
          have hq0 := HCX.out _ HT.out
          go_wp2_with fail
          refine hKK.out _ _ (.inr hq0) ?_
          clear hq0 hKK
          iterate 1
            first
            | (refine plan_lskip rfl rfl ?_)
            | (refine plan_last (v := ?_) rfl rfl (fun w' hS => ?_) ?_
               rotate_left
               · skip
                 go_simp; try with_reducible rfl)
            simp only [Act.put, List.getElem_toArray, List.getElem_cons_zero, List.getElem_cons_succ, List.setIfInBounds_toArray, List.set_cons_zero, List.set_cons_succ]
          refine plan_end ?_
          have HN : Hid (m10 = m7 ++ (xn.take (q + 1)).flatMap encF) := Lib.hid (by
            rw [← HS2.out, ← Hm10.out, ← Hm9.out, ← Hm8.out, HMq.out]
            simp [encF])
          go_wp2_with fail
          go_roundw
          case rel => exact ⟨q + 1, e10, d10, m10, HN, by omega, rfl, by first | rfl | go_num, HI⟩
          case measure => simp [intOf]; omega
        · obtain rfl : q = xn.length := by omega
          have hI : ¬ (xn.length : Int) < (xn.length : Int) := by omega
          have HN : Hid (M = m5 ++ (ss.take (j + 1)).flatMap stB) := Lib.hid (by
            rw [HMq.out, List.take_length, ← HSU.out, ← Hm7.out, ← Hm6.out, HLj.out]
            simp [stB, flsB])
          clear hlt2 hq
          go_wp2_with fail
          clear z2 z6 hI
          go_wp2_with fail
          go_roundw
          case rel => exact ⟨j + 1, e, d, M, HN, by omega, rfl, by first | rfl | go_num, HI⟩
          case measure => simp [intOf]; omega
    · obtain rfl : j = ss.length := by omega
      have HLL := HLj.out
      rw [List.take_length] at HLL
      have hlL : L.length ≤ 18 + A := by rw [HLL, List.length_append, HAA.out]; omega
      have HLm := Lib.hid HLL
      have hI : ¬ (ss.length : Int) < (ss.length : Int) := by omega
      clear HLj HLL hlt hj
      go_wp2_with fail
      clear z4 hI
      refine (rb_int2 HI.out (cs.length : Int) (by omega)).mono ?_
      rintro ee v11 ⟨e11, d11, rfl, hI, hV⟩
      have hlm11 : (L ++ i4 (cs.length : Int)).length ≤ 22 + A := by rw [List.length_append, i4_length]; omega
      generalize hL : L ++ i4 (cs.length : Int) = m11 at *
      have Hm11 := Lib.hid hL
      clear HI hL
      have HI := Lib.hid hI
      clear hI hV
      clear z6
      go_wp2_with fail
      go_loopw [4, 8] (fun s i wr => ∃ (j : Nat) (e : Option Addr) (d : Nat) (L : List UInt8), Hid (L = m11 ++ (cs.take j).flatMap clB) ∧ j ≤ cs.length ∧ s = .slice e L.length d ∧ i = .int .i64 (j : Int) ∧ Hid (Rb w1 wr e d L)) (fun _ i _ => cs.length - (intOf i).toNat)
      case atStart => exact ⟨0, e11, d11, m11, Lib.hid (by simp), Nat.zero_le _, rfl, rfl, HI⟩
      case round =>
        clear HI
        obtain ⟨j, e, d, L, HLj, hj, rfl, rfl, HI⟩ := hrel
        obtain ⟨z0, z1, z2, z3, z4, z5, z6⟩ := HCC.out _ HI.out.2.1
        clear z0 z1 z2 z3 z4 z5
        by_cases hlt : j < cs.length
        · have hI : (j : Int) < (cs.length : Int) := by omega
          obtain ⟨b, o, hb, hcell⟩ := (HI0.out wr HI.out.2.1).cv.at (show 0 < cs.length by omega) (by decide)
          dsimp only at hb
          subst hb
          have q0 : wr.cell? ⟨b, o + j * 3, none⟩ = some (sv cs[j].path) := hcell (j * 3 + 0) _ (cl_get cs j 0 hlt (by decide))
          have q1 : wr.cell? ⟨b, o + j * 3 + 1, none⟩ = some (.int .i64 cs[j].kind) := hcell (j * 3 + 1) _ (cl_get cs j 1 hlt (by decide))
          have q2 : wr.cell? ⟨b, o + j * 3 + 2, none⟩ = some (sv cs[j].text) := hcell (j * 3 + 2) _ (cl_get cs j 2 hlt (by decide))
          have hsucc := flatMap_succ clB cs j hlt
          have hlen : (L ++ clB cs[j]).length ≤ 22 + A + BB := by
            have h1 := flat_take_le clB cs (j + 1)
            rw [HBB.out] at h1
            rw [HLj.out, List.append_assoc, hsucc, List.length_append]
            omega
          rw [List.length_append, clB_len] at hlen
          have HSU := Lib.hid hsucc
          clear hsucc hcell
          generalize cs[j] = x at *
          obtain ⟨fp, fk, ft⟩ := x
          dsimp only at *
          unfold sv at q0 q2
          have hnew := heap_alloc_new wr (.cells #[Value.string (str fp), .int .i64 fk, Value.string (str ft)] 100)
          have HNEW := Lib.hid hnew
          clear hnew
          go_upto_region 20 with (fail)
          have hI2 := HI.out.other (Upd.alloc (fun _ => False) wr (.cells #[Value.string (str fp), .int .i64 fk, Value.string (str ft)] 100))
          have hnew := HNEW.out
          obtain ⟨xb, hxb⟩ : ∃ xb, wr.heap.size = xb := ⟨_, rfl⟩
          rw [hxb] at hnew ⊢
          generalize wr.alloc (.cells #[Value.string (str fp), .int .i64 fk, Value.string (str ft)] 100) = y1 at *
          have HCX : Hid (∀ w', Upd (fun _ => False) y1 w' → w'.cell? ⟨xb, 0, none⟩ = some (Value.string (str fp)) ∧ w'.cell? ⟨xb, 1, none⟩ = some (.int .i64 fk) ∧ w'.cell? ⟨xb, 2, none⟩ = some (Value.string (str ft))) := Lib.hid (fun w' hU => by
            have hr := (hU.block xb (lt_of_heap hnew) (fun h => h)).trans hnew
            exact ⟨cell_of_row _ xb 0 _ _ _ hr, cell_of_row _ xb 1 _ _ _ hr, cell_of_row _ xb 2 _ _ _ hr⟩)
          have HT : Hid (Upd (fun _ => False) y1 y1) := Lib.hid (Upd.refl _ _)
          clear HI HNEW hxb hnew q0 q1 q2 z6 hI
          have HI := Lib.hid hI2
          clear hI2
          have hq0 := HCX.out _ (HT.out.trans (Upd.drew _ _))
          refine wp_region_plan_last [([0, 1, 2, 4, 5, 7, 8], 3), ([], 6), ([], 9)] [10] (fun w' => w'.cell? ⟨xb, 0, none⟩ = some (Value.string (str fp)) ∧ w'.cell? ⟨xb, 1, none⟩ = some (.int .i64 fk) ∧ w'.cell? ⟨xb, 2, none⟩ = some (Value.string (str ft))) (by kernel_rfl) (by kernel_rfl) hq0 ?_
          clear hq0
          have hI := HI.out.other (Upd.drew _ _)
          have HT := Lib.hid (HT.out.trans (Upd.drew _ _))
          clear HI
          have HI := Lib.hid hI
          clear hI
          iterate 7
            first
            | (refine plan_skip rfl rfl ?_)
            | (refine plan_take (v := ?_) rfl rfl (fun w' hS => ?_) ?_
               rotate_left
               · skip
                 go_simp; try with_reducible rfl)
            simp only [Act.put, List.getElem_toArray, List.getElem_cons_zero, List.getElem_cons_succ, List.setIfInBounds_toArray, List.set_cons_zero, List.set_cons_succ]
          refine plan_act rfl (fun KK hKK => ?_)
          go_wp2_with fail
          refine (rb_text2 HI.out fp (by omega) (by omega)).mono ?_
          rintro ee v12 ⟨e12, d12, rfl, hI, hV⟩
          have hlm12 : (L ++ tx fp).length ≤ L.length + 4 + fp.length := by rw [List.length_append, tx_len]; omega
          generalize hL : L ++ tx fp = m12 at *
          have Hm12 := Lib.hid hL
          clear HI hL
          have HI := Lib.hid hI
          have HT := Lib.hid (HT.out.trans hV)
          clear hI hV
          have hq0 := HCX.out _ HT.out
          go_wp2_with fail
          refine hKK.out _ _ (.inr hq0) ?_
          clear hq0 hKK
          refine plan_act rfl (fun KK hKK => ?_)
          go_wp2_with fail
          refine (rb_int2 HI.out fk (by omega)).mono ?_
          rintro ee v13 ⟨e13, d13, rfl, hI, hV⟩
          have hlm13 : (m12 ++ i4 fk).length ≤ L.length + 8 + fp.length := by rw [List.length_append, i4_length]; omega
          generalize hL : m12 ++ i4 fk = m13 at *
          have Hm13 := Lib.hid hL
          clear HI hL
          have HI := Lib.hid hI
          have HT := Lib.hid (HT.out.trans hV)
          clear hI hV
          have hq0 := HCX.out _ HT.out
          go_wp2_with fail
          refine hKK.out _ _ (.inr hq0) ?_
          clear hq0 hKK
          refine plan_act rfl (fun KK hKK => ?_)
          go_wp2_with fail
          refine (rb_text2 HI.out ft (by omega) (by omega)).mono ?_
          rintro ee v14 ⟨e14, d14, rfl, hI, hV⟩
          have hlm14 : (m13 ++ tx ft).length ≤ L.length + 12 + fp.length + ft.length := by rw [List.length_append, tx_len]; omega
          generalize hL : m13 ++ tx ft = m14 at *
          have Hm14 := Lib.hid hL
          clear HI hL
          have HI := Lib.hid hI
          have HT := Lib.hid (HT.out.trans hV)
          clear hI hV
          have hq0 := HCX.out _ HT.out
          go_wp2_with fail
          refine hKK.out _ _ (.inr hq0) ?_
          clear hq0 hKK
          iterate 1
            first
            | (refine plan_lskip rfl rfl ?_)
            | (refine plan_last (v := ?_) rfl rfl (fun w' hS => ?_) ?_
               rotate_left
               · skip
                 go_simp; try with_reducible rfl)
            simp only [Act.put, List.getElem_toArray, List.getElem_cons_zero, List.getElem_cons_succ, List.setIfInBounds_toArray, List.set_cons_zero, List.set_cons_succ]
          refine plan_end ?_
          have HN : Hid (m14 = m11 ++ (cs.take (j + 1)).flatMap clB) := Lib.hid (by
            rw [← HSU.out, ← Hm14.out, ← Hm13.out, ← Hm12.out, HLj.out]
            simp [clB])
          go_wp2_with fail
          go_roundw
          case rel => exact ⟨j + 1, e14, d14, m14, HN, by omega, rfl, by first | rfl | go_num, HI⟩
          case measure => simp [intOf]; omega
        · obtain rfl : j = cs.length := by omega
          have HLL := HLj.out
          rw [List.take_length] at HLL
          have HLn := Lib.hid HLL
          have hI : ¬ (cs.length : Int) < (cs.length : Int) := by omega
          clear HLj HLL hlt hj
          have hLL : RL = L := by rw [HD.out, HLn.out, ← Hm11.out, HLm.out, ← Hm5.out, ← Hm4.out, ← Hm3.out, ← Hm2.out, ← Hm1.out]
          subst hLL
          have HF := Lib.hid (HI.out.packed HU.out)
          go_wp2_with fail
          clear z6 HI
          go_ret2
          exact ⟨e, d, rfl, HF.out⟩
end Go.Proofs.YtccejkikphpnfaaGreatDoor

namespace Go.Proofs.YtccejkikphpnfaaGreatDoor
set_option linter.unusedSimpArgs false
set_option linter.unusedVariables false
set_option maxRecDepth 100000
open Go.ChangeShapes Go.WideShapes Go.ChangeAt Go.RowKit

/-- It answers; nothing changes. -/
def Told (w : World) (e : Ending) (w' : World) : Prop := ∃ b, e = .returned (.bool b) ∧ Upd (fun _ => False) w w'
set_option maxHeartbeats 8000000 in
theorem few21_any (r : Rt) (p : Wt) (w : World) (h : RtIn w r) (hp : WtIn w p) : Calls Tryz.prog 9 #[.agg (rtA r), .agg (wtA p)] w (Told w) := by
  have hU1 := Upd.alloc (fun _ => False) w (.cells (rtA r) 26)
  have hrow1 := heap_alloc_new w (.cells (rtA r) 26)
  have hU2 := Upd.alloc (fun _ => False) (w.alloc (.cells (rtA r) 26)) (.cells (wtA p) 30)
  have hrow2 := heap_alloc_new (w.alloc (.cells (rtA r) 26)) (.cells (wtA p) 30)
  rw [show (w.alloc (.cells (rtA r) 26)).heap.size = w.heap.size + 1 from by simp] at hrow2
  have hrow1' := (hU2.block _ (lt_of_heap hrow1) (fun h => h)).trans hrow1
  have hi := h.upd (hU1.trans hU2)
  have hj := hp.upd (hU1.trans hU2)
  have hcm := h.mv.cap
  have hlm := h.mv.le
  have hcs := hp.sv.cap
  have hls := hp.sv.le
  unfold maxLen at hcm hcs
  obtain ⟨q, ca, cc, ks, ma, mc, ms, na, nc, ns, k⟩ := r
  obtain ⟨on, re, src, dst, sa, sc, ss, com, cla, clc, cs⟩ := p
  unfold rtA wtA at *
  dsimp only at *
  have HP := Lib.hid (And.intro (hU1.trans hU2) (And.intro hrow1' (And.intro hrow2 (And.intro hi hj))))
  clear hU1 hrow1 hU2 hrow2 hrow1' hi hj h hp
  go_enter Tryz.func9, Tryz.ntmps9
  go_upto_region 1 with (fail)
  obtain ⟨hU, hr1, hr2, hi, hj⟩ := HP.out
  generalize (w.alloc (Obj.cells #[.int .i64 q, .slice ca ks.length cc, .slice ma ms.length mc, .slice na ns.length nc, .int .i64 k] 26)).alloc (Obj.cells #[.bool on, .bool re, .int .i64 src, .int .i64 dst, .slice sa ss.length sc, .int .i64 com, .slice cla cs.length clc] 30) = y0 at *
  generalize w.heap.size = RB at *
  have HU := Lib.hid hU
  have HI := Lib.hid hi
  have HJ := Lib.hid hj
  have HCC : Hid (∀ w', Upd (fun _ => False) y0 w' → w'.cell? ⟨RB, 1, none⟩ = some (.slice ca ks.length cc) ∧ w'.cell? ⟨RB, 2, none⟩ = some (.slice ma ms.length mc) ∧ w'.cell? ⟨RB, 3, none⟩ = some (.slice na ns.length nc) ∧ w'.cell? ⟨RB + 1, 4, none⟩ = some (.slice sa ss.length sc) ∧ w'.cell? ⟨RB + 1, 6, none⟩ = some (.slice cla cs.length clc)) := Lib.hid (fun w' h => by
    obtain ⟨a0, a1, a2, a3, a4⟩ := row5 ((h.block RB (lt_of_heap hr1) (fun h => h)).trans hr1)
    obtain ⟨c0, c1, c2, c3, c4, c5, c6⟩ := row7 ((h.block (RB + 1) (lt_of_heap hr2) (fun h => h)).trans hr2)
    exact ⟨a1, a2, a3, c4, c6⟩)
  obtain ⟨z0, z1, z2, z3, z4⟩ := HCC.out y0 (Upd.refl _ _)
  clear hU hr1 hr2 hi hj HP
  go_upto_block 0 with (fail)
  go_cut [5] (fun v wx => ∃ z : Int, v = .int .i64 z ∧ Hid (Upd (fun _ => False) y0 wx))
  case first =>
    go_wp2_with fail
    go_loopw [5, 6] (fun v i wr => ∃ (j : Nat) (z : Int), j ≤ ms.length ∧ i = .int .i64 (j : Int) ∧ v = .int .i64 z ∧ Hid (Upd (fun _ => False) y0 wr)) (fun _ i _ => ms.length - (intOf i).toNat)
    case atStart => exact ⟨0, _, Nat.zero_le _, rfl, rfl, Lib.hid (Upd.refl _ _)⟩
    case round =>
      obtain ⟨j, z, hj, rfl, rfl, HUr⟩ := hrel
      obtain ⟨z0, z1, z2, z3, z4⟩ := HCC.out _ HUr.out
      clear z0 z2 z3 z4
      by_cases hlt : j < ms.length
      case neg =>
        have hI : ¬ (j : Int) < (ms.length : Int) := by omega
        go_wp2_with fail
        go_meet
        case rel => exact ⟨z, rfl, HUr⟩
      by_cases hz : z < 200
      case neg =>
        have hI : (j : Int) < (ms.length : Int) := by omega
        have hZ : decide (z < 200) = false := decide_eq_false hz
        go_wp2_with fail
        go_meet
        case rel => exact ⟨z, rfl, HUr⟩
      have hI : (j : Int) < (ms.length : Int) := by omega
      obtain ⟨b, o, hb, hcell⟩ := (HI.out.mv.upd HUr.out (fun _ _ h => h)).at (show 0 < ms.length by omega) (by decide)
      dsimp only at hb
      subst hb
      have q1 : wr.cell? ⟨b, o + j * 2 + 1, none⟩ = some (.slice ms[j].a ms[j].new.length ms[j].c) := hcell (j * 2 + 1) _ (mk_get ms j 1 hlt (by decide))
      clear hcell
      generalize ms[j] = x at *
      obtain ⟨xo, xn, xa, xc⟩ := x
      dsimp only at *
      go_wp2_with fail
      clear z1 q1
      go_roundw
      case rel => exact ⟨j + 1, _, by omega, by first | rfl | go_num, rfl, HUr⟩
      case measure => simp [intOf]; omega
  case rest =>
    obtain ⟨z, rfl, HU1⟩ := hcut
    go_wp2_with fail
    go_loopw [5, 7] (fun v i wr => ∃ (j : Nat) (z : Int), j ≤ ss.length ∧ i = .int .i64 (j : Int) ∧ v = .int .i64 z ∧ Hid (Upd (fun _ => False) y0 wr)) (fun _ i _ => ss.length - (intOf i).toNat)
    case atStart => exact ⟨0, _, Nat.zero_le _, rfl, rfl, HU1⟩
    case round =>
      obtain ⟨j, z, hj, rfl, rfl, HUr⟩ := hrel
      obtain ⟨z0, z1, z2, z3, z4⟩ := HCC.out _ HUr.out
      clear z0 z1 z2 z4
      by_cases hlt : j < ss.length
      case neg =>
        have hI : ¬ (j : Int) < (ss.length : Int) := by omega
        go_wp2_with fail
        go_ret
        exact ⟨decide (z < 120), rfl, HU.out.trans HUr.out⟩
      by_cases hz : z < 200
      case neg =>
        have hI : (j : Int) < (ss.length : Int) := by omega
        have hZ : decide (z < 200) = false := decide_eq_false hz
        go_wp2_with fail
        go_ret
        exact ⟨decide (z < 120), rfl, HU.out.trans HUr.out⟩
      have hI : (j : Int) < (ss.length : Int) := by omega
      obtain ⟨b, o, hb, hcell⟩ := (HJ.out.sv.upd HUr.out (fun _ _ h => h)).at (show 0 < ss.length by omega) (by decide)
      dsimp only at hb
      subst hb
      have q1 : wr.cell? ⟨b, o + j * 2 + 1, none⟩ = some (.slice ss[j].a ss[j].fs.length ss[j].c) := hcell (j * 2 + 1) _ (st_get ss j 1 hlt (by decide))
      clear hcell
      generalize ss[j] = x at *
      obtain ⟨xo, xn, xa, xc⟩ := x
      dsimp only at *
      go_wp2_with fail
      clear z3 q1
      go_roundw
      case rel => exact ⟨j + 1, _, by omega, by first | rfl | go_num, rfl, HUr⟩
      case measure => simp [intOf]; omega
end Go.Proofs.YtccejkikphpnfaaGreatDoor

namespace Go.Proofs.YtccejkikphpnfaaGreatDoor
set_option linter.unusedSimpArgs false
set_option linter.unusedVariables false
set_option maxRecDepth 100000
open Go.ChangeShapes Go.WideShapes Go.ChangeAt Go.RowKit

theorem mPackDrop_any (w : World) : Calls Tryz.prog 18 #[] w (Made w [4]) := by
  have hown := lit_own w 4
  have HO := Lib.hid hown
  clear hown
  go_enter Tryz.func18, Tryz.ntmps18
  go_wp2
  go_ret
  exact ⟨some ⟨w.heap.size, 0, none⟩, 1, rfl, Vw.of_own HO.out, fun g hg => by cases hg; exact ⟨Nat.le_refl _, by simp⟩, Upd.alloc _ _ _⟩
theorem r21PackDrop_any (w : World) : Calls Tryz.prog 19 #[] w (Made w [4]) := by
  have hown := lit_own w 4
  have HO := Lib.hid hown
  clear hown
  go_enter Tryz.func19, Tryz.ntmps19
  go_wp2
  go_ret
  exact ⟨some ⟨w.heap.size, 0, none⟩, 1, rfl, Vw.of_own HO.out, fun g hg => by cases hg; exact ⟨Nat.le_refl _, by simp⟩, Upd.alloc _ _ _⟩
theorem bytes_same {w : World} (a a2 : Option Addr) (c c2 : Nat) (l : List UInt8) (hv : Vw w a l.length c 1 (bvs l)) (hv2 : Vw w a2 l.length c2 1 (bvs l)) :
    Calls Tryz.prog 15 #[.slice a l.length c, .slice a2 l.length c2] w fun e w' => e = .returned (.bool true) ∧ w = w' := by
  have h := sBytes_any a a2 c c2 l l w hv hv2
  rw [show (l == l) = true from by simp] at h
  exact h

set_option maxHeartbeats 16000000 in
theorem MetalogTells_walk (w : World) (r : Rt) (h : RtIn w r) (p : Wt) (hp : WtIn w p) (hmax : (waitG p).length ≤ 80000000) (tt : Int) (wtt : (Lit.int .i64 tt).wf = true) (redo : Bool) :
    Calls Tryz.prog 3 #[.agg (rtA r), .agg (wtA p), .int .i64 tt, .bool redo] w fun e w' => e = .returned (.bool true) ∧ Below w.heap.size w w' := by
  have hU1 := Upd.alloc (fun _ => False) w (.cells (rtA r) 26)
  have hrow1 := heap_alloc_new w (.cells (rtA r) 26)
  have hU2 := Upd.alloc (fun _ => False) (w.alloc (.cells (rtA r) 26)) (.cells (wtA p) 30)
  have hrow2 := heap_alloc_new (w.alloc (.cells (rtA r) 26)) (.cells (wtA p) 30)
  rw [show (w.alloc (.cells (rtA r) 26)).heap.size = w.heap.size + 1 from by simp] at hrow2
  have hrow1' := (hU2.block _ (lt_of_heap hrow1) (fun h => h)).trans hrow1
  have hU := hU1.trans hU2
  have HI : Hid (∀ w', Upd (fun _ => False) w w' → RtIn w' r ∧ WtIn w' p) := Lib.hid (fun w' hu => ⟨h.upd hu, hp.upd hu⟩)
  have HMAX := Lib.hid hmax
  have HA : Hid ((rtA r).size = 5 ∧ (wtA p).size = 7) := Lib.hid ⟨rfl, rfl⟩
  generalize hA1 : rtA r = A1 at *
  generalize hA2 : wtA p = A2 at *
  have HA1 := Lib.hid hA1
  have HA2 := Lib.hid hA2
  clear hU1 hrow1 hU2 h hp hmax hA1 hA2 wtt
  have HP := Lib.hid (And.intro hU (And.intro hrow1' hrow2))
  clear hU hrow1' hrow2
  go_enter Tryz.func3, Tryz.ntmps3
  go_upto_region 1 with (fail)
  obtain ⟨hU, hr1, hr2⟩ := HP.out
  generalize (w.alloc (Obj.cells A1 26)).alloc (Obj.cells A2 30) = y0 at *
  obtain ⟨RB, hRB⟩ : ∃ B, w.heap.size = B := ⟨_, rfl⟩
  have HB := Lib.hid hRB
  have HR1 : Hid (∀ w', Upd (fun _ => False) y0 w' → w'.heap[RB]? = some (.cells A1 26)) := Lib.hid (fun w' hu => by rw [← hRB]; exact (hu.block _ (lt_of_heap hr1) (fun h => h)).trans hr1)
  have HR2 : Hid (∀ w', Upd (fun _ => False) y0 w' → w'.heap[RB + 1]? = some (.cells A2 30)) := Lib.hid (fun w' hu => by rw [← hRB]; exact (hu.block _ (lt_of_heap hr2) (fun h => h)).trans hr2)
  have HU := Lib.hid hU
  rw [hRB]
  clear hU hr1 hr2 hRB HP
  have hr1 := HR1.out y0 (Upd.refl _ _)
  have hr2 := HR2.out y0 (Upd.refl _ _)
  have hfew := few21_any r p y0 (HI.out _ HU.out).1 (HI.out _ HU.out).2
  rw [HA1.out, HA2.out] at hfew
  go_wp2_with (first
    | refine wpList_load_row rfl 26 (.tmp 4) rfl RB A1 26 (0, 0) _ rfl hr1 Tryz.underlying26 rfl (by rw [infoRoot, HA.out.1]) ?_
    | refine wpList_load_row rfl 30 (.tmp 5) rfl (RB + 1) A2 30 (0, 0) _ rfl hr2 Tryz.underlying30 rfl (by rw [infoPend7, HA.out.2]) ?_)
  refine hfew.mono ?_
  rintro e w1 ⟨b, rfl, hV⟩
  have HV1 := Lib.hid hV
  clear hV hfew hr1 hr2
  cases b with
  | false =>
    go_wp2_with fail
    refine (awake21_any w1).mono ?_
    rintro e w2 ⟨rfl, hV⟩
    have HF := Lib.hid (HU.out.trans (HV1.out.trans hV))
    clear hV
    go_wp2_with fail
    go_ret
    exact ⟨rfl, HF.out.below (Nat.le_refl _) (fun _ _ h => h)⟩
  | true =>
  have hr1 := HR1.out w1 HV1.out
  have hpk := mPackRoot_gen r w1 (HI.out _ (HU.out.trans HV1.out)).1
  rw [HA1.out] at hpk
  generalize hL1 : rootGR r = l1 at *
  generalize hE1 : rootGE r = x1 at *
  have HL1 := Lib.hid (And.intro hL1 hE1)
  clear hL1 hE1
  go_wp2_with (refine wpList_load_row rfl 26 (.tmp 4) rfl RB A1 26 (0, 0) _ rfl hr1 Tryz.underlying26 rfl (by rw [infoRoot, HA.out.1]) ?_)
  refine hpk.mono ?_
  rintro e w2 ⟨a1, c1, rfl, hv, hf, hV⟩
  have HX1 := Lib.hid hv
  have HV2 := Lib.hid (HV1.out.trans hV)
  clear hv hf hV hpk hr1
  go_upto_region 4 with (fail)
  have hr1 := HR1.out w2 HV2.out
  have hpk := r21PackRoot_gen r w2 (HI.out _ (HU.out.trans HV2.out)).1
  rw [HA1.out, HL1.out.1, HL1.out.2] at hpk
  go_wp2_with (refine wpList_load_row rfl 26 (.tmp 4) rfl RB A1 26 (0, 0) _ rfl hr1 Tryz.underlying26 rfl (by rw [infoRoot, HA.out.1]) ?_)
  refine hpk.mono ?_
  rintro e w3 ⟨a2, c2, rfl, hv, hf, hV⟩
  have HY1 := Lib.hid (And.intro (HX1.out.upd hV (fun _ _ h => h)) hv)
  have HV3 := Lib.hid (HV2.out.trans hV)
  clear hv hf hV hpk hr1 HX1
  go_upto_region 5 with (fail)
  have hr2 := HR2.out w3 HV3.out
  have hpk := mPackWait_any p w3 (HI.out _ (HU.out.trans HV3.out)).2 HMAX.out
  rw [HA2.out] at hpk
  generalize hL2 : waitR p = l2 at *
  generalize hE2 : waitE p = x2 at *
  have HL2 := Lib.hid (And.intro hL2 hE2)
  clear hL2 hE2
  go_wp2_with (refine wpList_load_row rfl 30 (.tmp 5) rfl (RB + 1) A2 30 (0, 0) _ rfl hr2 Tryz.underlying30 rfl (by rw [infoPend7, HA.out.2]) ?_)
  refine hpk.mono ?_
  rintro e w4 ⟨a3, c3, rfl, hv, hf, hV⟩
  have HX2 := Lib.hid hv
  have HT1 := Lib.hid (And.intro (HY1.out.1.upd hV (fun _ _ h => h)) (HY1.out.2.upd hV (fun _ _ h => h)))
  have HV4 := Lib.hid (HV3.out.trans hV)
  clear hv hf hV hpk hr2 HY1
  go_upto_region 6 with (fail)
  have hr2 := HR2.out w4 HV4.out
  have hpk := r21PackWait_gen p w4 (HI.out _ (HU.out.trans HV4.out)).2 HMAX.out
  rw [HA2.out, HL2.out.1, HL2.out.2] at hpk
  go_wp2_with (refine wpList_load_row rfl 30 (.tmp 5) rfl (RB + 1) A2 30 (0, 0) _ rfl hr2 Tryz.underlying30 rfl (by rw [infoPend7, HA.out.2]) ?_)
  refine hpk.mono ?_
  rintro e w5 ⟨a4, c4, rfl, hv, hf, hV⟩
  have HY2 := Lib.hid (And.intro (HX2.out.upd hV (fun _ _ h => h)) hv)
  have HT2 := Lib.hid (And.intro (HT1.out.1.upd hV (fun _ _ h => h)) (HT1.out.2.upd hV (fun _ _ h => h)))
  have HV5 := Lib.hid (HV4.out.trans hV)
  clear hv hf hV hpk hr2 HX2 HT1
  go_upto_region 7 with (fail)
  go_wp2_with fail
  refine (awake21_any w5).mono ?_
  rintro e w6 ⟨rfl, hV⟩
  have HY3 := Lib.hid (And.intro (HY2.out.1.upd hV (fun _ _ h => h)) (HY2.out.2.upd hV (fun _ _ h => h)))
  have HT3 := Lib.hid (And.intro (HT2.out.1.upd hV (fun _ _ h => h)) (HT2.out.2.upd hV (fun _ _ h => h)))
  have HV6 := Lib.hid (HV5.out.trans hV)
  clear hV HY2 HT2
  go_wp2_with fail
  refine (bytes_same a1 a2 c1 c2 l1 HT3.out.1 HT3.out.2).mono ?_
  rintro e w7 ⟨rfl, rfl⟩
  have hx1 : (x1 == x1) = true := by simp
  go_wp2_with fail
  refine (bytes_same a3 a4 c3 c4 l2 HY3.out.1 HY3.out.2).mono ?_
  rintro e w7 ⟨rfl, rfl⟩
  have hx2 : (x2 == x2) = true := by simp
  clear hx1 HT3 HY3
  go_wp2_with fail
  clear hx2
  refine (mPackMove_any tt redo w6).mono ?_
  rintro e w7 ⟨a5, c5, rfl, hv, hf, hV⟩
  have HX := Lib.hid hv
  have HV7 := Lib.hid (HV6.out.trans hV)
  clear hv hf hV
  go_wp2_with fail
  refine (r21PackMove_any tt redo w7).mono ?_
  rintro e w8 ⟨a6, c6, rfl, hv, hf, hV⟩
  have hvx := HX.out.upd hV (fun _ _ h => h)
  have hbs := bytes_same a5 a6 c5 c6 _ hvx hv
  have HV8 := Lib.hid (HV7.out.trans hV)
  generalize moveL tt redo = l3 at *
  clear hv hf hV hvx HX
  go_wp2_with fail
  refine hbs.mono ?_
  rintro e w9 ⟨rfl, rfl⟩
  clear hbs
  go_wp2_with fail
  refine (mPackDrop_any w8).mono ?_
  rintro e w9 ⟨a7, c7, rfl, hv, hf, hV⟩
  have HX := Lib.hid hv
  have HV9 := Lib.hid (HV8.out.trans hV)
  clear hv hf hV
  go_wp2_with fail
  refine (r21PackDrop_any w9).mono ?_
  rintro e w10 ⟨a8, c8, rfl, hv, hf, hV⟩
  have hvx := HX.out.upd hV (fun _ _ h => h)
  have hbs := bytes_same a7 a8 c7 c8 _ hvx hv
  dsimp only [List.length_cons, List.length_nil] at hbs
  have HF := Lib.hid (HU.out.trans (HV9.out.trans hV))
  clear hv hf hV hvx HX
  go_wp2_with fail
  refine hbs.mono ?_
  rintro e w11 ⟨rfl, rfl⟩
  clear hbs
  go_wp2_with fail
  go_ret
  exact ⟨rfl, HF.out.below (Nat.le_refl _) (fun _ _ h => h)⟩
end Go.Proofs.YtccejkikphpnfaaGreatDoor

namespace Go.Proofs.YtccejkikphpnfaaGreatDoor
set_option linter.unusedSimpArgs false
set_option linter.unusedVariables false
set_option maxRecDepth 100000
open Go.ChangeShapes Go.WideShapes Go.ChangeAt Go.RowKit

theorem bulk_append {H : Type} (l r : List (DataW H)) : Rows.uptoBulkAll (l ++ r) = Rows.uptoBulkAll l + Rows.uptoBulkAll r := by
  induction l with
  | nil => simp [Rows.uptoBulkAll]
  | cons x l ih => simp only [List.cons_append, Rows.uptoBulkAll, ih]; omega
theorem bulk_one {H : Type} (d : DataW H) : 1 ≤ Rows.uptoBulk d := by
  cases d with
  | lit l => cases l <;> simp [Rows.uptoBulk]
  | nil => simp [Rows.uptoBulk]
  | ptr d => simp [Rows.uptoBulk]
  | slice elems spare => simp [Rows.uptoBulk]
  | agg parts => simp [Rows.uptoBulk]
  | iface t d => simp [Rows.uptoBulk]
  | map entries => simp [Rows.uptoBulk]
  | held h => simp [Rows.uptoBulk]
section
variable {H : Type} {enc : TypeId × Value → H} {W : World}
theorem open_elemsB {X : Type} (dec : X → List Value) (good : X → Prop) (f : X → List UInt8) (t e : TypeId) (k : Nat) (ht : Tryz.prog.underlying t = some (.slice e)) (hk : Tryz.prog.cellsOf e = k) (h0 : 0 < k) (hl : ∀ x, (dec x).length = k)
    (hdec : ∀ fuel cs y, cs.length = k → DataW.trod enc Tryz.prog W 0 (fun _ => true) true fuel e cs = some y → ∃ x, cs = dec x ∧ good x ∧ (f x).length ≤ 16 * Rows.uptoBulk y.1)
    {fuel : Nat} {cs : List Value} {y : DataW H × List MemPlace} (h : DataW.trod enc Tryz.prog W 0 (fun _ => true) true fuel t cs = some y) :
    ∃ (a : Option Addr) (c : Nat) (xs : List X), cs = [.slice a xs.length c] ∧ Vw W a xs.length c k (xs.flatMap dec) ∧ (∀ x ∈ xs, good x) ∧ (xs.flatMap f).length ≤ 16 * Rows.uptoBulk y.1 := by
  subst hk
  rcases DataW.trod_slice ht h with ⟨rfl, rfl⟩ | ⟨a, len, cap, elems, rest, n, _, rfl, rfl, hb, hlc, hm, hlen, hel, hsp, hns⟩
  · exact ⟨none, 0, [], rfl, Vw.nl _ _, (fun x hx => by cases hx), by simp⟩
  · have each : ∀ i, (hi : i < elems.length) → ∃ cs x, W.cells? 0 (a.add (i * Tryz.prog.cellsOf e)) (Tryz.prog.cellsOf e) = some cs ∧ cs = dec x ∧ good x ∧ (f x).length ≤ 16 * Rows.uptoBulk elems[i].1 := by
      intro i hi
      have h1 := hel i (by omega)
      rw [List.getElem?_eq_getElem hi] at h1
      obtain ⟨cs, hcs, htr⟩ := Option.bind_eq_some_iff.1 h1
      obtain ⟨x, hx, hg, hf⟩ := hdec n cs _ (cells?_get hcs).1 htr
      exact ⟨cs, x, hcs, hx, hg, hf⟩
    have all : ∀ m, m ≤ len → ∃ xs : List X, xs.length = m ∧ (∀ x ∈ xs, good x) ∧ (xs.flatMap f).length ≤ 16 * Rows.uptoBulkAll ((elems.take m).map (·.1)) ∧ ∀ i x, xs[i]? = some x → W.cells? 0 (a.add (i * Tryz.prog.cellsOf e)) (Tryz.prog.cellsOf e) = some (dec x) := by
      intro m
      induction m with
      | zero => intro _; exact ⟨[], rfl, (fun x hx => by cases hx), by simp, (fun i x hx => by simp at hx)⟩
      | succ m ih =>
        intro hm
        obtain ⟨xs, hx1, hx2, hx4, hx3⟩ := ih (by omega)
        obtain ⟨cs, x, hcs, rfl, hg, hf⟩ := each m (by omega)
        refine ⟨xs ++ [x], by simp [hx1], ?_, ?_, ?_⟩
        · intro z hz
          rcases List.mem_append.1 hz with hz | hz
          · exact hx2 z hz
          · simp at hz; subst hz; exact hg
        · rw [List.take_succ_eq_append_getElem (by omega), List.map_append, bulk_append, List.flatMap_append, List.length_append]
          simp only [List.flatMap_cons, List.flatMap_nil, List.append_nil, List.map_cons, List.map_nil, Rows.uptoBulkAll, Nat.add_zero]
          omega
        · intro i z hz
          rcases Nat.lt_or_ge i xs.length with hi | hi
          · rw [List.getElem?_append_left hi] at hz; exact hx3 i z hz
          · rw [List.getElem?_append_right hi] at hz
            have : i = xs.length := by
              have := (List.getElem?_eq_some_iff.1 hz).1
              simp at this; omega
            subst this
            simp at hz
            subst hz
            rw [hx1]; exact hcs
    obtain ⟨xs, hx1, hx2, hx4, hx3⟩ := all len (Nat.le_refl _)
    have hcell : ∀ j u, (xs.flatMap dec)[j]? = some u → W.cell? (a.add j) = some u := by
      intro j u hu
      have hj : j = j / Tryz.prog.cellsOf e * Tryz.prog.cellsOf e + j % Tryz.prog.cellsOf e := by rw [Nat.mul_comm]; exact (Nat.div_add_mod _ _).symm
      have hr := Nat.mod_lt j h0
      rw [hj] at hu
      rw [flatMap_get dec _ hl xs _ _ hr] at hu
      obtain ⟨x, hx, hxu⟩ := Option.bind_eq_some_iff.1 hu
      have := (cells?_get (hx3 _ x hx)).2 _ hr
      rw [Addr.add_add, ← hj] at this
      rw [this]; exact hxu
    refine ⟨some a, cap, xs, by rw [hx1], ⟨by rw [flatMap_length dec _ hl], by omega, hm, (fun h => by cases h), (fun z hz => by cases hz; exact hcell)⟩, hx2, ?_⟩
    rw [List.take_of_length_le (by omega)] at hx4
    simp only [Rows.uptoBulk]
    omega
theorem key_list {fuel : Nat} {cs : List Value} {y : DataW H × List MemPlace} (hf : DataW.trod enc Tryz.prog W 0 (fun _ => true) true fuel 52 cs = some y) : ∃ x : List UInt8, cs = bvs x ∧ x.length = 32 := by
  obtain ⟨xs, m, _, _, hlen, hl, hel⟩ := DataW.trod_array Tryz.underlying52 hf
  have hc1 : Tryz.prog.cellsOf 5 = 1 := by kernel_rfl
  have hc32 : Tryz.prog.cellsOf 52 = 32 := by kernel_rfl
  rw [hc32] at hlen
  have hcs : ∀ i, i < 32 → ∃ b : UInt8, cs[i]? = some (bv b) := by
    intro i hi
    have he := hel i hi
    rw [hc1, Nat.mul_one] at he
    have hx : i < xs.length := by omega
    rw [List.getElem?_eq_getElem hx] at he
    obtain ⟨a, ea, _, wa⟩ := DataW.trod_int Tryz.underlying5 he
    have hb := bounds_u8 wa
    refine ⟨UInt8.ofNat a.toNat, ?_⟩
    have h0 : (cs.drop i)[0]? = some (.int .u8 a) := by
      have : ((cs.drop i).take 1)[0]? = some (.int .u8 a) := by rw [ea]; rfl
      simpa [List.getElem?_take] using this
    rw [List.getElem?_drop] at h0
    rw [Nat.add_zero] at h0
    rw [h0]
    unfold bv
    rw [UInt8.toNat_ofNat']
    congr 2
    omega
  have key : ∀ (l : List Value), (∀ i, i < l.length → ∃ b : UInt8, l[i]? = some (bv b)) → ∃ x, l = bvs x := by
    intro l
    induction l with
    | nil => intro _; exact ⟨[], rfl⟩
    | cons v l ih =>
      intro h
      obtain ⟨b, hb⟩ := h 0 (by simp)
      obtain ⟨x, hx⟩ := ih (fun i hi => h (i + 1) (by simpa using hi))
      refine ⟨b :: x, ?_⟩
      simp at hb
      rw [hb, hx]; rfl
  obtain ⟨x, hx⟩ := key cs (fun i hi => hcs i (by omega))
  refine ⟨x, hx, ?_⟩
  rw [hx] at hlen
  simpa [bvs] using hlen
theorem flat_iv : ∀ (l : List Int), l.flatMap (fun x => [iv x]) = l.map iv
  | [] => rfl
  | x :: l => by rw [List.flatMap_cons, flat_iv l, List.map_cons]; rfl
theorem open_ints {fuel : Nat} {cs : List Value} {y : DataW H × List MemPlace} (hy : DataW.trod enc Tryz.prog W 0 (fun _ => true) true fuel 49 cs = some y) :
    ∃ (a : Option Addr) (c : Nat) (xs : List Int), cs = [.slice a xs.length c] ∧ Vw W a xs.length c 1 (xs.map iv) := by
  obtain ⟨a, c, xs, h1, h2, _, _⟩ := open_elemsB (fun x => [iv x]) (fun _ => True) (fun _ => []) 49 3 1 Tryz.underlying49 (by kernel_rfl) (by decide) (fun _ => rfl) (fun fuel cs y hl hy => by
    obtain ⟨n, e, _, _⟩ := DataW.trod_int Tryz.underlying3 hy
    exact ⟨n, e, trivial, by simp⟩) hy
  rw [flat_iv] at h2
  exact ⟨a, c, xs, h1, h2⟩
theorem open_kys {fuel : Nat} {cs : List Value} {y : DataW H × List MemPlace} (hy : DataW.trod enc Tryz.prog W 0 (fun _ => true) true fuel 22 cs = some y) :
    ∃ (a : Option Addr) (c : Nat) (xs : List Ky), cs = [.slice a xs.length c] ∧ Vw W a xs.length c 32 (xs.flatMap kyV) := by
  obtain ⟨a, c, xs, h1, h2, _, _⟩ := open_elemsB kyV (fun _ => True) (fun _ => []) 22 52 32 Tryz.underlying22 (by kernel_rfl) (by decide) kyV_len (fun fuel cs y hl hy => by
    obtain ⟨x, e, hx⟩ := key_list hy
    exact ⟨⟨x, hx⟩, e, trivial, by simp⟩) hy
  exact ⟨a, c, xs, h1, h2⟩
theorem open_mkE {fuel : Nat} {cs : List Value} {y : DataW H × List MemPlace} (hl : cs.length = 2) (hy : DataW.trod enc Tryz.prog W 0 (fun _ => true) true fuel 77 cs = some y) :
    ∃ x : Mk, cs = mkV x ∧ MkIn W x ∧ ((fun _ => []) x : List UInt8).length ≤ 16 * Rows.uptoBulk y.1 := by
  obtain ⟨xs, n, _, hx, _, hlen, hg⟩ := DataW.trod_struct Tryz.underlying77 hy
  match cs, hl with
  | [c0, c1], _ =>
    match xs, hlen with
    | [y0, y1], _ =>
      have k0 : Tryz.prog.cellsOf 3 = 1 := by kernel_rfl
      have k1 : Tryz.prog.cellsOf 49 = 1 := by kernel_rfl
      have g0 : DataW.trod enc Tryz.prog W 0 (fun _ => true) true n 3 (([c0, c1].drop 0).take (Tryz.prog.cellsOf 3)) = some y0 := hg 0 _ rfl
      have g1 : DataW.trod enc Tryz.prog W 0 (fun _ => true) true n 49 (([c0, c1].drop 1).take (Tryz.prog.cellsOf 49)) = some y1 := hg 1 _ rfl
      rw [k0] at g0
      rw [k1] at g1
      obtain ⟨n0, e0, f0, _⟩ := DataW.trod_int Tryz.underlying3 g0
      obtain ⟨a1, q1, x1, e1, v1⟩ := open_ints g1
      simp at e0 e1
      subst e0 e1
      exact ⟨⟨n0, x1, a1, q1⟩, rfl, v1, by simp⟩
theorem open_nmE {fuel : Nat} {cs : List Value} {y : DataW H × List MemPlace} (hl : cs.length = 2) (hy : DataW.trod enc Tryz.prog W 0 (fun _ => true) true fuel 92 cs = some y) :
    ∃ x : Nm, cs = nmV x ∧ x.name.length ≤ maxLen ∧ ((fun _ => []) x : List UInt8).length ≤ 16 * Rows.uptoBulk y.1 := by
  obtain ⟨xs, n, _, hx, _, hlen, hg⟩ := DataW.trod_struct Tryz.underlying92 hy
  match cs, hl with
  | [c0, c1], _ =>
    match xs, hlen with
    | [y0, y1], _ =>
      have k0 : Tryz.prog.cellsOf 9 = 1 := by kernel_rfl
      have k1 : Tryz.prog.cellsOf 3 = 1 := by kernel_rfl
      have g0 : DataW.trod enc Tryz.prog W 0 (fun _ => true) true n 9 (([c0, c1].drop 0).take (Tryz.prog.cellsOf 9)) = some y0 := hg 0 _ rfl
      have g1 : DataW.trod enc Tryz.prog W 0 (fun _ => true) true n 3 (([c0, c1].drop 1).take (Tryz.prog.cellsOf 3)) = some y1 := hg 1 _ rfl
      rw [k0] at g0
      rw [k1] at g1
      obtain ⟨s0, e0, f0, l0⟩ := DataW.trod_string Tryz.underlying9 g0
      obtain ⟨n1, e1, f1, _⟩ := DataW.trod_int Tryz.underlying3 g1
      simp at e0 e1
      subst e0 e1
      exact ⟨⟨s0.data.toList, n1⟩, by simp [nmV, sv, str_data], by rw [Array.length_toList]; exact l0, by simp⟩
theorem open_flE {fuel : Nat} {cs : List Value} {y : DataW H × List MemPlace} (hl : cs.length = 3) (hy : DataW.trod enc Tryz.prog W 0 (fun _ => true) true fuel 103 cs = some y) :
    ∃ x : Fl, cs = flV x ∧ (x.path.length ≤ maxLen ∧ x.text.length ≤ maxLen) ∧ (encF x).length ≤ 16 * Rows.uptoBulk y.1 := by
  obtain ⟨xs, n, _, hx, _, hlen, hg⟩ := DataW.trod_struct Tryz.underlying103 hy
  match cs, hl with
  | [c0, c1, c2], _ =>
    match xs, hlen with
    | [y0, y1, y2], _ =>
      have k0 : Tryz.prog.cellsOf 9 = 1 := by kernel_rfl
      have k1 : Tryz.prog.cellsOf 4 = 1 := by kernel_rfl
      have k2 : Tryz.prog.cellsOf 9 = 1 := by kernel_rfl
      have g0 : DataW.trod enc Tryz.prog W 0 (fun _ => true) true n 9 (([c0, c1, c2].drop 0).take (Tryz.prog.cellsOf 9)) = some y0 := hg 0 _ rfl
      have g1 : DataW.trod enc Tryz.prog W 0 (fun _ => true) true n 4 (([c0, c1, c2].drop 1).take (Tryz.prog.cellsOf 4)) = some y1 := hg 1 _ rfl
      have g2 : DataW.trod enc Tryz.prog W 0 (fun _ => true) true n 9 (([c0, c1, c2].drop 2).take (Tryz.prog.cellsOf 9)) = some y2 := hg 2 _ rfl
      rw [k0] at g0
      rw [k1] at g1
      rw [k2] at g2
      obtain ⟨s0, e0, f0, l0⟩ := DataW.trod_string Tryz.underlying9 g0
      obtain ⟨b1, e1, f1⟩ := DataW.trod_bool Tryz.underlying4 g1
      obtain ⟨s2, e2, f2, l2⟩ := DataW.trod_string Tryz.underlying9 g2
      simp at e0 e1 e2
      subst e0 e1 e2
      refine ⟨⟨s0.data.toList, b1, s2.data.toList⟩, by simp [flV, sv, str_data], ⟨by rw [Array.length_toList]; exact l0, by rw [Array.length_toList]; exact l2⟩, ?_⟩
      rw [hx, f0, f1, f2, encF_len]
      simp only [List.map_cons, List.map_nil, Rows.uptoBulk, Rows.uptoBulkAll]
      omega
theorem open_fls {fuel : Nat} {cs : List Value} {y : DataW H × List MemPlace} (hy : DataW.trod enc Tryz.prog W 0 (fun _ => true) true fuel 78 cs = some y) :
    ∃ (a : Option Addr) (c : Nat) (xs : List Fl), cs = [.slice a xs.length c] ∧ Vw W a xs.length c 3 (xs.flatMap flV) ∧ (∀ x ∈ xs, x.path.length ≤ maxLen ∧ x.text.length ≤ maxLen) ∧ (xs.flatMap encF).length ≤ 16 * Rows.uptoBulk y.1 :=
  open_elemsB flV (fun x => x.path.length ≤ maxLen ∧ x.text.length ≤ maxLen) encF 78 103 3 Tryz.underlying78 (by kernel_rfl) (by decide) (fun _ => rfl) (fun fuel cs y hl hy => open_flE hl hy) hy
theorem open_stE {fuel : Nat} {cs : List Value} {y : DataW H × List MemPlace} (hl : cs.length = 2) (hy : DataW.trod enc Tryz.prog W 0 (fun _ => true) true fuel 80 cs = some y) :
    ∃ x : St, cs = stV x ∧ StIn W x ∧ (stB x).length ≤ 16 * Rows.uptoBulk y.1 := by
  obtain ⟨xs, n, _, hx, _, hlen, hg⟩ := DataW.trod_struct Tryz.underlying80 hy
  match cs, hl with
  | [c0, c1], _ =>
    match xs, hlen with
    | [y0, y1], _ =>
      have k0 : Tryz.prog.cellsOf 3 = 1 := by kernel_rfl
      have k1 : Tryz.prog.cellsOf 78 = 1 := by kernel_rfl
      have g0 : DataW.trod enc Tryz.prog W 0 (fun _ => true) true n 3 (([c0, c1].drop 0).take (Tryz.prog.cellsOf 3)) = some y0 := hg 0 _ rfl
      have g1 : DataW.trod enc Tryz.prog W 0 (fun _ => true) true n 78 (([c0, c1].drop 1).take (Tryz.prog.cellsOf 78)) = some y1 := hg 1 _ rfl
      rw [k0] at g0
      rw [k1] at g1
      obtain ⟨n0, e0, f0, _⟩ := DataW.trod_int Tryz.underlying3 g0
      obtain ⟨a1, q1, x1, e1, v1, o1, z1⟩ := open_fls g1
      simp at e0 e1
      subst e0 e1
      refine ⟨⟨n0, x1, a1, q1⟩, rfl, ⟨v1, fun x hx => (o1 x hx).1, fun x hx => (o1 x hx).2⟩, ?_⟩
      rw [hx, stB_len, f0]
      unfold flsB
      rw [List.length_append, i4_length]
      have h1 := bulk_one y1.1
      simp only [List.map_cons, List.map_nil, Rows.uptoBulk, Rows.uptoBulkAll]
      omega
theorem open_clE {fuel : Nat} {cs : List Value} {y : DataW H × List MemPlace} (hl : cs.length = 3) (hy : DataW.trod enc Tryz.prog W 0 (fun _ => true) true fuel 100 cs = some y) :
    ∃ x : Cl, cs = clV x ∧ True ∧ (clB x).length ≤ 16 * Rows.uptoBulk y.1 := by
  obtain ⟨xs, n, _, hx, _, hlen, hg⟩ := DataW.trod_struct Tryz.underlying100 hy
  match cs, hl with
  | [c0, c1, c2], _ =>
    match xs, hlen with
    | [y0, y1, y2], _ =>
      have k0 : Tryz.prog.cellsOf 9 = 1 := by kernel_rfl
      have k1 : Tryz.prog.cellsOf 3 = 1 := by kernel_rfl
      have k2 : Tryz.prog.cellsOf 9 = 1 := by kernel_rfl
      have g0 : DataW.trod enc Tryz.prog W 0 (fun _ => true) true n 9 (([c0, c1, c2].drop 0).take (Tryz.prog.cellsOf 9)) = some y0 := hg 0 _ rfl
      have g1 : DataW.trod enc Tryz.prog W 0 (fun _ => true) true n 3 (([c0, c1, c2].drop 1).take (Tryz.prog.cellsOf 3)) = some y1 := hg 1 _ rfl
      have g2 : DataW.trod enc Tryz.prog W 0 (fun _ => true) true n 9 (([c0, c1, c2].drop 2).take (Tryz.prog.cellsOf 9)) = some y2 := hg 2 _ rfl
      rw [k0] at g0
      rw [k1] at g1
      rw [k2] at g2
      obtain ⟨s0, e0, f0, l0⟩ := DataW.trod_string Tryz.underlying9 g0
      obtain ⟨n1, e1, f1, _⟩ := DataW.trod_int Tryz.underlying3 g1
      obtain ⟨s2, e2, f2, l2⟩ := DataW.trod_string Tryz.underlying9 g2
      simp at e0 e1 e2
      subst e0 e1 e2
      refine ⟨⟨s0.data.toList, n1, s2.data.toList⟩, by simp [clV, sv, str_data], trivial, ?_⟩
      rw [hx, f0, f1, f2, clB_len]
      simp only [List.map_cons, List.map_nil, Rows.uptoBulk, Rows.uptoBulkAll]
      omega
theorem open_rtE {fuel : Nat} {cs : List Value} {y : DataW H × List MemPlace} (hl : cs.length = 5) (hy : DataW.trod enc Tryz.prog W 0 (fun _ => true) true fuel 26 cs = some y) :
    ∃ x : Rt, cs = (rtA x).toList ∧ RtIn W x ∧ True := by
  obtain ⟨xs, n, _, hx, _, hlen, hg⟩ := DataW.trod_struct Tryz.underlying26 hy
  match cs, hl with
  | [c0, c1, c2, c3, c4], _ =>
    match xs, hlen with
    | [y0, y1, y2, y3, y4], _ =>
      have k0 : Tryz.prog.cellsOf 3 = 1 := by kernel_rfl
      have k1 : Tryz.prog.cellsOf 22 = 1 := by kernel_rfl
      have k2 : Tryz.prog.cellsOf 23 = 1 := by kernel_rfl
      have k3 : Tryz.prog.cellsOf 24 = 1 := by kernel_rfl
      have k4 : Tryz.prog.cellsOf 3 = 1 := by kernel_rfl
      have g0 : DataW.trod enc Tryz.prog W 0 (fun _ => true) true n 3 (([c0, c1, c2, c3, c4].drop 0).take (Tryz.prog.cellsOf 3)) = some y0 := hg 0 _ rfl
      have g1 : DataW.trod enc Tryz.prog W 0 (fun _ => true) true n 22 (([c0, c1, c2, c3, c4].drop 1).take (Tryz.prog.cellsOf 22)) = some y1 := hg 1 _ rfl
      have g2 : DataW.trod enc Tryz.prog W 0 (fun _ => true) true n 23 (([c0, c1, c2, c3, c4].drop 2).take (Tryz.prog.cellsOf 23)) = some y2 := hg 2 _ rfl
      have g3 : DataW.trod enc Tryz.prog W 0 (fun _ => true) true n 24 (([c0, c1, c2, c3, c4].drop 3).take (Tryz.prog.cellsOf 24)) = some y3 := hg 3 _ rfl
      have g4 : DataW.trod enc Tryz.prog W 0 (fun _ => true) true n 3 (([c0, c1, c2, c3, c4].drop 4).take (Tryz.prog.cellsOf 3)) = some y4 := hg 4 _ rfl
      rw [k0] at g0
      rw [k1] at g1
      rw [k2] at g2
      rw [k3] at g3
      rw [k4] at g4
      obtain ⟨n0, e0, f0, _⟩ := DataW.trod_int Tryz.underlying3 g0
      obtain ⟨a1, q1, x1, e1, v1⟩ := open_kys g1
      obtain ⟨a2, q2, x2, e2, v2, o2, z2⟩ := open_elemsB (mkV) (MkIn W) (fun _ => []) 23 77 2 Tryz.underlying23 (by kernel_rfl) (by decide) ((fun _ => rfl)) (fun fuel cs y hl hy => open_mkE hl hy) g2
      obtain ⟨a3, q3, x3, e3, v3, o3, z3⟩ := open_elemsB (nmV) (fun x => x.name.length ≤ maxLen) (fun _ => []) 24 92 2 Tryz.underlying24 (by kernel_rfl) (by decide) ((fun _ => rfl)) (fun fuel cs y hl hy => open_nmE hl hy) g3
      obtain ⟨n4, e4, f4, _⟩ := DataW.trod_int Tryz.underlying3 g4
      simp at e0 e1 e2 e3 e4
      subst e0 e1 e2 e3 e4
      exact ⟨⟨n0, a1, q1, x1, a2, q2, x2, a3, q3, x3, n4⟩, rfl, ⟨v1, v2, o2, v3, o3⟩, trivial⟩
theorem open_wtE {fuel : Nat} {cs : List Value} {y : DataW H × List MemPlace} (hl : cs.length = 7) (hy : DataW.trod enc Tryz.prog W 0 (fun _ => true) true fuel 30 cs = some y) :
    ∃ x : Wt, cs = (wtA x).toList ∧ WtIn W x ∧ (waitG x).length ≤ 22 + 16 * Rows.uptoBulk y.1 := by
  obtain ⟨xs, n, _, hx, _, hlen, hg⟩ := DataW.trod_struct Tryz.underlying30 hy
  match cs, hl with
  | [c0, c1, c2, c3, c4, c5, c6], _ =>
    match xs, hlen with
    | [y0, y1, y2, y3, y4, y5, y6], _ =>
      have k0 : Tryz.prog.cellsOf 4 = 1 := by kernel_rfl
      have k1 : Tryz.prog.cellsOf 4 = 1 := by kernel_rfl
      have k2 : Tryz.prog.cellsOf 3 = 1 := by kernel_rfl
      have k3 : Tryz.prog.cellsOf 3 = 1 := by kernel_rfl
      have k4 : Tryz.prog.cellsOf 27 = 1 := by kernel_rfl
      have k5 : Tryz.prog.cellsOf 3 = 1 := by kernel_rfl
      have k6 : Tryz.prog.cellsOf 28 = 1 := by kernel_rfl
      have g0 : DataW.trod enc Tryz.prog W 0 (fun _ => true) true n 4 (([c0, c1, c2, c3, c4, c5, c6].drop 0).take (Tryz.prog.cellsOf 4)) = some y0 := hg 0 _ rfl
      have g1 : DataW.trod enc Tryz.prog W 0 (fun _ => true) true n 4 (([c0, c1, c2, c3, c4, c5, c6].drop 1).take (Tryz.prog.cellsOf 4)) = some y1 := hg 1 _ rfl
      have g2 : DataW.trod enc Tryz.prog W 0 (fun _ => true) true n 3 (([c0, c1, c2, c3, c4, c5, c6].drop 2).take (Tryz.prog.cellsOf 3)) = some y2 := hg 2 _ rfl
      have g3 : DataW.trod enc Tryz.prog W 0 (fun _ => true) true n 3 (([c0, c1, c2, c3, c4, c5, c6].drop 3).take (Tryz.prog.cellsOf 3)) = some y3 := hg 3 _ rfl
      have g4 : DataW.trod enc Tryz.prog W 0 (fun _ => true) true n 27 (([c0, c1, c2, c3, c4, c5, c6].drop 4).take (Tryz.prog.cellsOf 27)) = some y4 := hg 4 _ rfl
      have g5 : DataW.trod enc Tryz.prog W 0 (fun _ => true) true n 3 (([c0, c1, c2, c3, c4, c5, c6].drop 5).take (Tryz.prog.cellsOf 3)) = some y5 := hg 5 _ rfl
      have g6 : DataW.trod enc Tryz.prog W 0 (fun _ => true) true n 28 (([c0, c1, c2, c3, c4, c5, c6].drop 6).take (Tryz.prog.cellsOf 28)) = some y6 := hg 6 _ rfl
      rw [k0] at g0
      rw [k1] at g1
      rw [k2] at g2
      rw [k3] at g3
      rw [k4] at g4
      rw [k5] at g5
      rw [k6] at g6
      obtain ⟨b0, e0, f0⟩ := DataW.trod_bool Tryz.underlying4 g0
      obtain ⟨b1, e1, f1⟩ := DataW.trod_bool Tryz.underlying4 g1
      obtain ⟨n2, e2, f2, _⟩ := DataW.trod_int Tryz.underlying3 g2
      obtain ⟨n3, e3, f3, _⟩ := DataW.trod_int Tryz.underlying3 g3
      obtain ⟨a4, q4, x4, e4, v4, o4, z4⟩ := open_elemsB (stV) (StIn W) (stB) 27 80 2 Tryz.underlying27 (by kernel_rfl) (by decide) ((fun _ => rfl)) (fun fuel cs y hl hy => open_stE hl hy) g4
      obtain ⟨n5, e5, f5, _⟩ := DataW.trod_int Tryz.underlying3 g5
      obtain ⟨a6, q6, x6, e6, v6, o6, z6⟩ := open_elemsB (clV) (fun _ => True) (clB) 28 100 3 Tryz.underlying28 (by kernel_rfl) (by decide) ((fun _ => rfl)) (fun fuel cs y hl hy => open_clE hl hy) g6
      simp at e0 e1 e2 e3 e4 e5 e6
      subst e0 e1 e2 e3 e4 e5 e6
      refine ⟨⟨b0, b1, n2, n3, a4, q4, x4, n5, a6, q6, x6⟩, rfl, ⟨v4, o4, v6⟩, ?_⟩
      rw [hx, waitG_len]
      dsimp only
      simp only [List.map_cons, List.map_nil, Rows.uptoBulk, Rows.uptoBulkAll]
      omega
theorem agg_of {T : TypeId} {fs : Array Field} (hT : Tryz.prog.underlying T = some (.struct fs)) {base : Nat} {v : Value} (hval : Value.okWide Tryz.prog W .any base T v) : ∃ cs : Array Value, v = .agg cs := by
  simp only [Value.okWide, hT] at hval
  obtain ⟨cs, h1, h2, _⟩ := hval
  exact ⟨cs, h1⟩
theorem open_root {base : Nat} {v : Value} {d : DataW H} {ps : List MemPlace} (hval : Value.okWide Tryz.prog W .any base 26 v)
    (h : DataW.Trod enc Tryz.prog W 0 (fun _ => true) true 26 v d ps) : ∃ r : Rt, v = .agg (rtA r) ∧ RtIn W r := by
  obtain ⟨cs, rfl⟩ := agg_of Tryz.underlying26 hval
  obtain ⟨fuel, hf⟩ := h
  simp only [Value.cells] at hf
  have hl : cs.toList.length = 5 := by
    obtain ⟨_, _, _, _, hcl, _, _⟩ := DataW.trod_struct Tryz.underlying26 hf
    exact hcl.trans (by kernel_rfl)
  obtain ⟨r, h1, h2, _⟩ := open_rtE hl hf
  exact ⟨r, by rw [← Array.toList_inj.1 h1], h2⟩
theorem open_wait {base : Nat} {v : Value} {d : DataW H} {ps : List MemPlace} (hval : Value.okWide Tryz.prog W .any base 30 v)
    (h : DataW.Trod enc Tryz.prog W 0 (fun _ => true) true 30 v d ps) : ∃ p : Wt, v = .agg (wtA p) ∧ WtIn W p ∧ (waitG p).length ≤ 22 + 16 * Rows.uptoBulk d := by
  obtain ⟨cs, rfl⟩ := agg_of Tryz.underlying30 hval
  obtain ⟨fuel, hf⟩ := h
  simp only [Value.cells] at hf
  have hl : cs.toList.length = 7 := by
    obtain ⟨_, _, _, _, hcl, _, _⟩ := DataW.trod_struct Tryz.underlying30 hf
    exact hcl.trans (by kernel_rfl)
  obtain ⟨p, h1, h2, h3⟩ := open_wtE hl hf
  exact ⟨p, by rw [← Array.toList_inj.1 h1], h2, h3⟩
end
end Go.Proofs.YtccejkikphpnfaaGreatDoor

namespace Go.Proofs.YtccejkikphpnfaaGreatDoor.metalogTells
set_option linter.unusedVariables false
open Go.ChangeShapes Go.WideShapes Go.ChangeAt Go.RowKit
open Go.ChangeMaps (open_string shut_string)

noncomputable def wWorld (os : Os) : World := World.laidAll Tryz.prog os Rows.metalogTellsUptoRow.laid
theorem reads (os : Os) {H : Type} (enc : TypeId × Value → H) : ∃ places, DataW.whole enc Tryz.prog ((wWorld os).forCall (fun _ _ => 0) ⟨#[], #[.agg #[.int .i64 0, .slice none 0 0, .slice none 0 0, .slice none 0 0, .int .i64 0], .agg #[.bool false, .bool false, .int .i64 0, .int .i64 0, .slice none 0 0, .int .i64 0, .slice none 0 0], .int .i64 0, .bool false], []⟩).memory Tryz.f3.params.toList Rows.metalogTellsSpec.vars false #[.agg #[.int .i64 0, .slice none 0 0, .slice none 0 0, .slice none 0 0, .int .i64 0], .agg #[.bool false, .bool false, .int .i64 0, .int .i64 0, .slice none 0 0, .int .i64 0, .slice none 0 0], .int .i64 0, .bool false].toList 8 = some ([.agg [.lit (.int .i64 0), .nil, .nil, .nil, .lit (.int .i64 0)], .agg [.lit (.bool false), .lit (.bool false), .lit (.int .i64 0), .lit (.int .i64 0), .nil, .lit (.int .i64 0), .nil], .lit (.int .i64 0), .lit (.bool false)], [], places) :=
  ⟨[], by kernel_rfl⟩
set_option maxRecDepth 100000 in
theorem lifted (os : Os) (started : os.Started) (H : Type) (enc : TypeId × Value → H) (F : Stop.Interp) :
    ReturnsInHanded {} Tryz.checked os 3 .any ((Rows.OpenSpec.upto Rows.metalogTellsSpec).preRow enc Tryz.prog Tryz.f3 Rows.metalogTellsUptoRow.domain false Rows.metalogTellsUptoRow.laid) (((Rows.OpenSpec.upto Rows.metalogTellsSpec).at F).post enc Tryz.prog Tryz.f3 false true false false) := by
  obtain ⟨places, hx⟩ := reads os enc
  refine returnsInHanded_of_row (C := Tryz.checked) (s := Rows.OpenSpec.upto Rows.metalogTellsSpec) Frame.own started (by kernel_rfl) Tryz.func3
    ⟨wWorld os, fun _ _ => 0, ⟨#[], #[.agg #[.int .i64 0, .slice none 0 0, .slice none 0 0, .slice none 0 0, .int .i64 0], .agg #[.bool false, .bool false, .int .i64 0, .int .i64 0, .slice none 0 0, .int .i64 0, .slice none 0 0], .int .i64 0, .bool false], []⟩, World.laidAll_os _ _ _, World.shaped_of_ZipB (by kernel_rfl) (by kernel_rfl), rfl,
      (Input.okWide_of_okWideB (show Input.okWideB Tryz.prog ((wWorld os).forCall (fun _ _ => 0) ⟨#[], #[.agg #[.int .i64 0, .slice none 0 0, .slice none 0 0, .slice none 0 0, .int .i64 0], .agg #[.bool false, .bool false, .int .i64 0, .int .i64 0, .slice none 0 0, .int .i64 0, .slice none 0 0], .int .i64 0, .bool false], []⟩) 3 ⟨#[], #[.agg #[.int .i64 0, .slice none 0 0, .slice none 0 0, .slice none 0 0, .int .i64 0], .agg #[.bool false, .bool false, .int .i64 0, .int .i64 0, .slice none 0 0, .int .i64 0, .slice none 0 0], .int .i64 0, .bool false], []⟩ = true by kernel_rfl)).2,
      OpenSpec.preRow_of_cond 8 hx (by kernel_rfl) (fun k hk => by cases hk; kernel_rfl) (by kernel_rfl)
        (by rw [MakeChecks.laidMetH_plain _ _ _ (by kernel_rfl)]; exact laidMet_laidAll _ (by kernel_rfl) (by kernel_rfl)), by
        simp only [Assume.holds]
        exact ⟨by simp, by simp, fun _ => Modest.zero, by simp, by simp⟩⟩ ?_
  intro W base args ds gs before hval0 hW _ hk _ hL _ _
  have hb : Rows.uptoBulkAll (ds ++ gs) ≤ 1048576 := of_decide_eq_true (hk _ rfl)
  show Calls Tryz.prog 3 args W fun e W' => ∃ v, e = .returned v ∧ Rows.metalogTellsSpec.post enc Tryz.prog Tryz.f3 false true false false W args v W'
  have hval : ∀ (j : Nat) t v, Tryz.f3.params[j]? = some t → args[j]? = some v → Value.okWide Tryz.prog W .any base t v := hval0
  have hW' := hW
  obtain ⟨p, q, hA0, hV, rfl, hfz, hnd⟩ := hW
  have hA : DataW.TrodAll enc Tryz.prog W 0 (fun _ => true) true Tryz.f3.params.toList args.toList ds p := hA0
  rw [Tryz.params3] at hA hval
  have hA1 := hA
  obtain ⟨v0, vs0, d0, ds0, p0, q0, hargs, rfl, rfl, h0, r0⟩ := trodAll_cons hA
  obtain ⟨v1, vs1, d1, ds1, p1, q1, rfl, rfl, rfl, h1, r1⟩ := trodAll_cons r0
  obtain ⟨v2, vs2, d2, ds2, p2, q2, rfl, rfl, rfl, h2, r2⟩ := trodAll_cons r1
  obtain ⟨v3, vs3, d3, ds3, p3, q3, rfl, rfl, rfl, h3, r3⟩ := trodAll_cons r2
  obtain ⟨rfl, rfl, rfl⟩ := trodAll_nil r3
  obtain rfl : args = #[v0, v1, v2, v3] := by cases args; simp_all
  obtain ⟨rfl, rfl⟩ := trodVars_none hV
  obtain ⟨a0, rfl, w0⟩ := open_root (hval 0 26 v0 rfl rfl) h0
  obtain ⟨a1, rfl, w1, b1⟩ := open_wait (hval 1 30 v1 rfl rfl) h1
  obtain ⟨a2, rfl, rfl, rfl, w2⟩ := open_int Tryz.underlying3 (hval 2 3 v2 rfl rfl) h2
  obtain ⟨a3, rfl, rfl, rfl⟩ := open_bool Tryz.underlying4 (hval 3 4 v3 rfl rfl) h3
  clear hA0 hval0
  simp only [List.cons_append, List.nil_append, Rows.uptoBulkAll] at hb
  refine (MetalogTells_walk W a0 w0 a1 w1 (by omega) a2 w2 a3).mono fun e W' ⟨he, bel⟩ => ?_
  subst he
  exact ⟨_, rfl, _, _, _, [], _, [], hW', trodAll_mk1 (shut_bool Tryz.underlying4 _), trodAll_below Frame.laidOut bel _ _ _ _ (by kernel_rfl) hA1, rfl, bel.frame _, fun h => by cases h⟩

theorem over : Rows.metalogTellsUptoRow.holds Tryz.pinned (Rows.OpenSpec.upto Rows.metalogTellsSpec) :=
  OpenClaim.holds_of_cond 3 Tryz.f3 rfl rfl rfl rfl rfl rfl rfl ⟨rfl, rfl, rfl, rfl, rfl⟩ rfl rfl rfl rfl rfl (by kernel_rfl) Tryz.func3 (by kernel_rfl)
    (of_decide_eq_true (by kernel_rfl)) (by unfold Func.isWrapper; first | (rw [if_pos (by decide +kernel)]; kernel_rfl) | (rw [if_neg (by decide +kernel)]; exact ⟨rfl, rfl⟩))
    (fun os started H enc _ F => by rw [OpenClaim.pre_eq_preRow]; exact lifted os started H enc F)

theorem provedUpto : Rows.MetalogTellsUptoCardSaid :=
  Claim7.holds_tied_plain_at .later [] [.data, .pinned] true (true, "b60388af3aab03b11bb93a3aff3ad291aef62039b8479713a10d4b838c6a71a4") false over (fun _ h => by cases h) (by kernel_rfl) (fun _ h => by cases h) metalogTellsUpto_row_tie rfl ⟨rfl, rfl⟩ (by kernel_rfl) rfl
    (fun f fn hf hfn => by
      obtain rfl : f = 3 := Option.some.inj ((show Tryz.prog.funcNamed "rick/ricklaw21.MetalogTells" = some 3 by kernel_rfl).symm.trans hf) |>.symm
      obtain rfl : fn = Tryz.f3 := (Option.some.inj (Tryz.func3.symm.trans hfn)).symm
      exact ⟨by kernel_rfl, fun j t ht => by
        rw [Tryz.params3] at ht
        have hm : t ∈ Tryz.f3.params.toList := by rw [Tryz.params3]; exact Array.mem_def.1 (Array.mem_of_getElem? ht)
        have hall : (Tryz.f3.params.toList.all fun u => !Tryz.prog.wantsStandIn u) = true := by kernel_rfl
        exact (show Tryz.prog.wantsStandIn t = false by simpa using List.all_eq_true.1 hall t hm)⟩)
    (by kernel_rfl)
#print axioms provedUpto
end Go.Proofs.YtccejkikphpnfaaGreatDoor.metalogTells
