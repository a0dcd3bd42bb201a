
/- MetalogWaits: for every input of at most 1048576 values and letters together the statement's function answers true, and each argument reads behind the call as it read before. Condition: that bound. -/
import Derived.Test.YtccejkikphpnfaaGreatDoorWaG
import Derived.Test.YtccejkikphpnfaaGreatDoorWaH
import Derived.Test.YtccejkikphpnfaaGreatDoorFrame
import Derived.Test.YtccejkikphpnfaaGreatDoorWaE
import Derived.Test.YtccejkikphpnfaaGreatDoorRows
import Derived.Test.YtccejkikphpnfaaGreatDoorOpen
import Derived.Test.YtccejkikphpnfaaGreatDoorMtA
import Derived.OpenShut
import Derived.Test.YtccejkikphpnfaaGreatDoorTie
import Derived.Test.YtccejkikphpnfaaGreatDoorCards
import Derived.ProofKit
import Derived.LaidMore
import Derived.LaidLaws
import Derived.Lay
import Derived.SevenTiedAt
import Derived.Stop.Joined
import Derived.Deep.DeepHandedRow
namespace Go.Proofs.YtccejkikphpnfaaGreatDoor
set_option linter.unusedSimpArgs false
set_option linter.unusedVariables false
set_option maxRecDepth 100000
open Go.ChangeShapes Go.WideShapes Go.ChangeAt Go.RowKit

def onW (p : Wt) : Wt := ⟨true, p.re, p.src, p.dst, p.sa, p.sc, p.ss, p.com, p.ca, p.cc, p.cs⟩
theorem onW_in {w : World} {p : Wt} (h : WtIn w p) : WtIn w (onW p) := ⟨h.sv, h.se, h.cv⟩
theorem onW_row (p : Wt) : (wtA p).setIfInBounds 0 (.bool true) = wtA (onW p) := by simp [wtA, onW]
set_option maxHeartbeats 16000000 in
theorem MetalogWaits_walk (w : World) (p : Wt) (hp : WtIn w p) (hmax : (waitG p).length ≤ 60000000) (bb : Bool) :
    Calls Tryz.prog 4 #[.agg (wtA p), .bool bb] w fun e w' => e = .returned (.bool true) ∧ Below w.heap.size w w' := by
  have hU1 := Upd.alloc (fun _ => False) w (.cells (wtA p) 30)
  have hrow1 := heap_alloc_new w (.cells (wtA p) 30)
  have hfew := few21_any rt0 p (w.alloc (.cells (wtA p) 30)) ⟨Vw.nl _ _, Vw.nl _ _, (fun m hm => by cases hm), Vw.nl _ _, (fun m hm => by cases hm)⟩ (hp.upd hU1)
  have hrt0 : rtA rt0 = #[.int .i64 0, .slice none 0 0, .slice none 0 0, .slice none 0 0, .int .i64 0] := rfl
  rw [hrt0] at hfew
  have HI : Hid (∀ w', Upd (fun _ => False) w w' → WtIn w' p) := Lib.hid (fun w' hu => hp.upd hu)
  have HMAX : Hid ((waitG (onW p)).length ≤ 60000000) := Lib.hid hmax
  have HON := Lib.hid (onW_row p)
  have HC0 : Hid ((wtA p)[0]? = some (.bool p.on)) := Lib.hid rfl
  have HA : Hid ((wtA p).size = 7 ∧ (wtA (onW p)).size = 7) := Lib.hid ⟨rfl, rfl⟩
  generalize hA2 : wtA p = A2 at *
  have HA2 := Lib.hid hA2
  generalize hA1 : wtA (onW p) = A1 at *
  have HA1 := Lib.hid hA1
  have HP := Lib.hid (And.intro hU1 hrow1)
  clear hU1 hrow1 hp hmax hA2 hA1 hrt0
  go_enter Tryz.func4, Tryz.ntmps4
  go_upto_region 1 with (fail)
  generalize w.alloc (Obj.cells A2 30) = y0 at *
  obtain ⟨RB, hRB⟩ : ∃ B, w.heap.size = B := ⟨_, rfl⟩
  have HB := Lib.hid hRB
  rw [hRB]
  have hr2 := HP.out.2
  rw [hRB] at hr2
  have HR2 : Hid (∀ w', Upd (fun _ => False) y0 w' → w'.heap[RB]? = some (.cells A2 30)) := Lib.hid (fun w' hu => (hu.block _ (lt_of_heap hr2) (fun h => h)).trans hr2)
  have HU := Lib.hid HP.out.1
  clear hRB HP
  go_wp2_with (refine wpList_load_row rfl 30 (.tmp 2) rfl RB A2 30 (0, 0) _ rfl hr2 Tryz.underlying30 rfl (by rw [infoPend, HA.out.1]) ?_)
  refine hfew.mono ?_
  rintro e w1 ⟨b, rfl, hV⟩
  have HV1 := Lib.hid hV
  clear hV hfew hr2
  cases b with
  | false =>
    go_wp2_with fail
    refine (awake21_any w1).mono ?_
    rintro e w2 ⟨rfl, hV⟩
    have HF := Lib.hid (HU.out.trans (HV1.out.trans hV))
    clear hV
    go_wp2_with fail
    go_ret
    exact ⟨rfl, HF.out.below (Nat.le_refl _) (fun _ _ h => h)⟩
  | true =>
  have hr2 := HR2.out w1 HV1.out
  have q : w1.cell? ⟨RB, 0, none⟩ = some (.bool p.on) := by rw [cell_of_row _ _ _ _ _ _ hr2]; exact HC0.out
  have f : w1.frozen? ⟨RB, 0, none⟩ = false := free_row hr2
  go_upto_region 4 with (fail)
  have hst := Upd.setCell (S := fun k => k = RB) w1 (p := ⟨RB, 0, none⟩) rfl (.bool true)
  have hrow := setCell_heap 0 (.bool true) hr2
  rw [HON.out] at hrow
  have hUy := (HU.out.trans HV1.out).next hst (fun i hi e => by have := HB.out; omega)
  generalize w1.setCell ⟨RB, 0, none⟩ (.bool true) = y1 at *
  have HR1 : Hid (∀ w', Upd (fun _ => False) y1 w' → w'.heap[RB]? = some (.cells A1 30)) := Lib.hid (fun w' hu => (hu.block _ (lt_of_heap hrow) (fun h => h)).trans hrow)
  have HUy := Lib.hid hUy
  clear q f hr2 hst hrow hUy HR2
  have hr1 := HR1.out y1 (Upd.refl _ _)
  have hpk := mPackWait_any (onW p) y1 (onW_in (HI.out _ HUy.out)) (by have := HMAX.out; omega)
  rw [HA1.out] at hpk
  have HRR : Hid (waitR (onW p) = if waitB (onW p) then waitG (onW p) else []) := Lib.hid rfl
  have HEE : Hid (waitE (onW p) = if waitB (onW p) then 0 else 5) := Lib.hid rfl
  generalize waitR (onW p) = RL at *
  generalize waitE (onW p) = EE at *
  go_wp2_with (refine wpList_load_row rfl 30 (.tmp 2) rfl RB A1 30 (0, 0) _ rfl hr1 Tryz.underlying30 rfl (by rw [infoPend, HA.out.2]) ?_)
  refine hpk.mono ?_
  unfold Packed
  rintro e w2 ⟨a5, c5, rfl, hv, hf, hV⟩
  have HX5 := Lib.hid (And.intro hv hf)
  have HV2 := Lib.hid hV
  clear hv hf hV hpk hr1
  cases hB : waitB (onW p) with
  | false =>
    have h1 := HRR.out
    have h2 := HEE.out
    rw [hB] at h1 h2
    simp only [Bool.false_eq_true, if_false] at h1 h2
    subst h1
    subst h2
    clear hB
    go_wp2_with fail
    refine (awake21_any w2).mono ?_
    rintro e w3 ⟨rfl, hV⟩
    have HF := Lib.hid (HUy.out.trans (HV2.out.trans hV))
    clear hV
    go_wp2_with fail
    go_ret
    exact ⟨rfl, by have h := HB.out; subst h; exact HF.out.below (Nat.le_refl _) (fun _ _ h => h)⟩
  | true =>
  have h1 := HRR.out
  have h2 := HEE.out
  rw [hB] at h1 h2
  simp only [if_true] at h1 h2
  rw [waitG_c] at h1
  have HWB : Hid (waitBC (wtC (onW p)) = true ∧ RL = waitGC (wtC (onW p)) ∧ RL.length ≤ 60000000) := Lib.hid ⟨by rw [waitB_c] at hB; simp only [Bool.and_eq_true] at hB; exact hB.2, h1, by rw [h1, ← waitG_c]; exact HMAX.out⟩
  subst h2
  clear hB h1
  go_upto_region 7 with (fail)
  go_wp2_with fail
  refine (mNew_any w2).mono ?_
  rintro e w3 ⟨lb, rfl, hL, hV, hlb⟩
  have HN := Lib.hid (And.intro (logX_new hL) (And.intro hV hlb))
  clear hL hV hlb
  have hpk := r21PackRoot_gen rtM w3 ⟨Vw.nl _ _, Vw.nl _ _, (fun m hm => by cases hm), Vw.nl _ _, (fun m hm => by cases hm)⟩
  rw [rM_ok.1, rM_ok.2.1, show rtA rtM = #[.int .i64 (-1), .slice none 0 0, .slice none 0 0, .slice none 0 0, .int .i64 (-1)] from rfl] at hpk
  generalize hL6 : rootGC rM = L6 at hpk
  have HL6 := Lib.hid hL6
  clear hL6
  go_upto_region 8 with (fail)
  go_wp2_with fail
  refine hpk.mono ?_
  unfold Packed
  rintro e w4 ⟨a6, c6, rfl, hv, hf, hV⟩
  have H6 := Lib.hid (And.intro hv (And.intro hf hV))
  clear hv hf hV hpk
  have hpk := r21PackRoot_gen rtZ w4 ⟨Vw.nl _ _, Vw.nl _ _, (fun m hm => by cases hm), Vw.nl _ _, (fun m hm => by cases hm)⟩
  rw [rZ_ok.1, rZ_ok.2.1, show rtA rtZ = #[.int .i64 0, .slice none 0 0, .slice none 0 0, .slice none 0 0, .int .i64 (-1)] from rfl] at hpk
  generalize hL7 : rootGC rZ = L7 at hpk
  have HL7 := Lib.hid hL7
  clear hL7
  go_upto_region 9 with (fail)
  go_wp2_with fail
  refine hpk.mono ?_
  unfold Packed
  rintro e w5 ⟨a7, c7, rfl, hv, hf, hV⟩
  have HW : Hid (Wst y1 w5 lb g0 ⟨none, 0, none, 0, none, 0, none, 0⟩ a5 c5 RL a6 c6 L6 a7 c7 L7) := Lib.hid (by
    have hlb := HN.out.2.2
    have hlt := HN.out.1.lt
    have z1 := HV2.out.size
    have z2 := HN.out.2.1.size
    have z3 := H6.out.2.2.size
    have hU25 := HN.out.2.1.trans (H6.out.2.2.trans hV)
    exact ⟨HV2.out.trans hU25, HN.out.1.other (H6.out.2.2.trans hV), HX5.out.1.upd hU25 (fun _ _ h => h), H6.out.1.upd hV (fun _ _ h => h), hv,
      fun g hg => by (have := HX5.out.2 g hg; omega), fun g hg => by (have := H6.out.2.1 g hg; omega), fun g hg => by (have := hf g hg; omega), by omega⟩)
  clear hv hf hV hpk HN H6 HX5 HV2
  go_upto_region 10 with (fail)
  go_wp2_with fail
  refine (mPackDrop_anyP w5).mono ?_
  unfold Made
  rintro e w6 ⟨a8, c8, rfl, hv, hf, hV⟩
  have HW1 := Lib.hid (HW.out.same hV)
  have hadd := st_drop0 HW1.out.log a8 c8 hv
  clear hv hf hV HW
  go_wp2_with fail
  refine hadd.mono ?_
  unfold Done
  rintro e w7 ⟨rfl, A1', hL, hU⟩
  have HW := Lib.hid (HW1.out.put hL hU)
  clear hadd hL hU HW1
  go_upto_region 11 with (fail)
  have hadd := st_root1 HW.out.log a6 c6 (by rw [HL6.out]; exact HW.out.v6)
  rw [HL6.out] at hadd
  go_wp2_with fail
  refine hadd.mono ?_
  unfold DoneR Done
  rintro e w8 ⟨x, hx, rfl, A2', hL, hU⟩
  have HW1 := Lib.hid (HW.out.put hL hU)
  have HX := Lib.hid hx
  clear hadd hL hU HW hx
  go_upto_region 12 with (fail)
  have hadd := st_wait2 HW1.out.log (wtC (onW p)) HWB.out.1 (by rw [← HWB.out.2.1]; have := HWB.out.2.2; omega) a5 c5 (by rw [← HWB.out.2.1]; exact HW1.out.v5)
  rw [← HWB.out.2.1] at hadd
  go_wp2_with fail
  refine hadd.mono ?_
  unfold DoneW Done
  rintro e w9 ⟨y, hy, rfl, A3', hL, hU⟩
  have HW := Lib.hid (HW1.out.put hL hU)
  have HY := Lib.hid hy
  clear hadd hL hU HW1 hy
  go_upto_region 13 with (fail)
  go_wp2_with fail
  refine (mPackMove_any (-1) false w9).mono ?_
  unfold Made
  rintro e w10 ⟨a9, c9, rfl, hv, hf, hV⟩
  have HW1 := Lib.hid (HW.out.same hV)
  have hadd := st_move2 HW1.out.log HY.out.1 a9 c9 hv
  clear hv hf hV HW
  generalize moveL (-1) false = L9 at *
  go_wp2_with fail
  refine hadd.mono ?_
  unfold Done
  rintro e w11 ⟨rfl, A4', hL, hU⟩
  have HW := Lib.hid (HW1.out.put hL hU)
  clear hadd hL hU HW1
  go_upto_region 14 with (fail)
  have hS0 : w11.drew.heap[RB]? = some (.cells A1 30) := HR1.out _ (HW.out.upd.trans (Upd.drew _ _))
  refine wp_region_plan_last [([], 0), ([1, 2, 3, 4, 5, 6, 7, 8, 9, 10, 11, 12, 13, 14, 15, 17], 16), ([], 18), ([19, 20, 21, 22], 23)] [24, 25] (fun w' => w'.heap[RB]? = some (.cells A1 30)) (by kernel_rfl) (by kernel_rfl) hS0 ?_
  refine plan_act rfl (fun K0 hK0 => ?_)
  go_wp2_with fail
  refine (awake21_any w11.drew).mono ?_
  rintro e w12 ⟨rfl, hV⟩
  have HW1 := Lib.hid (HW.out.same ((Upd.drew _ _).trans hV))
  have hS1 := HR1.out _ HW1.out.upd
  clear hV hS0
  go_wp2_with fail
  refine hK0.out _ _ (.inr hS1) ?_
  clear HW
  iterate 15
    refine plan_take (v := ?_) rfl rfl (fun w' hS => ?_) ?_
    rotate_left
    · skip
      go_simp; try with_reducible rfl
    simp only [Act.put, List.getElem_toArray, List.getElem_cons_zero, List.getElem_cons_succ, List.setIfInBounds_toArray, List.set_cons_zero, List.set_cons_succ]
  refine plan_take (v := .agg A1) rfl rfl (fun w' hS => exec_load_row 30 (.tmp 2) rfl RB A1 30 (0, 0) _ rfl hS Tryz.underlying30 rfl (by rw [infoPend, HA.out.2])) ?_
  simp only [Act.put, List.getElem_toArray, List.getElem_cons_zero, List.getElem_cons_succ, List.setIfInBounds_toArray, List.set_cons_zero, List.set_cons_succ]
  refine plan_act rfl (fun K1 hK1 => ?_)
  have hpd := mPending_any _ _ lb w12 HW1.out.log (fs_100 (y := y) (by rw [HY.out.2]; exact HWB.out.1)).1 (fs_100 (y := y) (by rw [HY.out.2]; exact HWB.out.1)).2.1 (fs_100 (y := y) (by rw [HY.out.2]; exact HWB.out.1)).2.2
  go_wp2_with fail
  refine hpd.mono ?_
  unfold PendC
  rintro e w13 ⟨q, rfl, hqo, hqc, hqi, hV⟩
  have HW := Lib.hid (HW1.out.same hV)
  have hS2 := HR1.out _ HW.out.upd
  have hsp := sPending_any q (onW p) w13 hqi (onW_in (HI.out _ (HUy.out.trans HW.out.upd))) (hqo.trans HY.out.1) (hqc.trans HY.out.2)
  rw [HA1.out] at hsp
  clear hqo hqc hqi hV hpd HW1 hS1
  generalize wtA q = AQ at *
  go_wp2_with fail
  refine hK1.out _ _ (.inr hS2) ?_
  refine plan_act rfl (fun K2 hK2 => ?_)
  go_wp2_with fail
  refine hsp.mono ?_
  rintro e w14 ⟨rfl, hV⟩
  have HW1 := Lib.hid (HW.out.same hV)
  have hS3 := HR1.out _ HW1.out.upd
  clear hV hsp hS2 HW
  go_wp2_with fail
  refine hK2.out _ _ (.inr hS3) ?_
  iterate 4
    refine plan_take (v := ?_) rfl rfl (fun w' hS => ?_) ?_
    rotate_left
    · skip
      go_simp; try with_reducible rfl
    simp only [Act.put, List.getElem_toArray, List.getElem_cons_zero, List.getElem_cons_succ, List.setIfInBounds_toArray, List.set_cons_zero, List.set_cons_succ]
  refine plan_act rfl (fun K3 hK3 => ?_)
  have hat := mAtX HW1.out.log (show (0 : Int) ≤ 1 by decide) (show (1 : Int) ≤ 100000 by decide)
  rw [show (W2 x y).top - 1 = 0 from rfl] at hat
  go_wp2_with fail
  refine hat.mono ?_
  rintro e w15 ⟨rfl, rfl⟩
  clear hat
  go_wp2_with fail
  refine hK3.out _ _ (.inr hS3) ?_
  iterate 2
    refine plan_last (v := ?_) rfl rfl (fun w' hS => ?_) ?_
    rotate_left
    · skip
      go_simp; try with_reducible rfl
    simp only [Act.put, List.getElem_toArray, List.getElem_cons_zero, List.getElem_cons_succ, List.setIfInBounds_toArray, List.set_cons_zero, List.set_cons_succ]
  refine plan_end ?_
  clear hS3
  cases bb with
  | true =>
    have hadd := st_root3 HW1.out.log a7 c7 (by rw [HL7.out]; exact HW1.out.v7)
    rw [HL7.out] at hadd
    go_wp2_with fail
    refine hadd.mono ?_
    unfold DoneR Done
    rintro e w16 ⟨x2, hx2, rfl, A5', hL, hU⟩
    have HW := Lib.hid (HW1.out.put hL hU)
    have HX2 := Lib.hid hx2
    clear hadd hL hU HW1 hx2
    have hpd := mPending_any _ _ lb w16 HW.out.log (show 0 ≤ 1000000000 by decide) (show 0 ≤ 1000000000 by decide) (fun m hm => by cases hm)
    go_wp2_with fail
    refine hpd.mono ?_
    unfold PendC
    rintro e w17 ⟨q, rfl, hqo, hqc, hqi, hV⟩
    have HW1 := Lib.hid (HW.out.same hV)
    have hsp := sPending_any q wt0 w17 hqi (wt0_in _) hqo hqc
    rw [show wtA wt0 = #[.bool false, .bool false, .int .i64 0, .int .i64 0, .slice none 0 0, .int .i64 0, .slice none 0 0] from rfl] at hsp
    clear hqo hqc hqi hV hpd HW
    generalize wtA q = AQ2 at *
    go_wp2_with fail
    refine hsp.mono ?_
    rintro e w18 ⟨rfl, hV⟩
    have HW := Lib.hid (HW1.out.same hV)
    clear hV hsp HW1
    have hrec := mRecordsX HW.out.log
    rw [show (W3 x x2).n = 3 from rfl] at hrec
    have hat := mAtX HW.out.log (show (0 : Int) ≤ 2 by decide) (show (2 : Int) ≤ 100000 by decide)
    rw [show (W3 x x2).top - 1 = 1 from rfl] at hat
    go_wp2_with fail
    refine hrec.mono ?_
    rintro e w19 ⟨rfl, rfl⟩
    clear hrec
    go_wp2_with fail
    refine hat.mono ?_
    rintro e w19 ⟨rfl, rfl⟩
    go_wp2_with fail
    refine hat.mono ?_
    rintro e w19 ⟨rfl, rfl⟩
    clear hat
    go_wp2_with fail
    refine (mPackMove_any 0 false w18).mono ?_
    unfold Made
    rintro e w20 ⟨a9, c9, rfl, hv, hf, hV⟩
    have HW1 := Lib.hid (HW.out.same hV)
    have hadd := st_move4 HW1.out.log HX2.out a9 c9 hv
    clear hv hf hV HW
    generalize moveL 0 false = L10 at *
    go_wp2_with fail
    refine hadd.mono ?_
    unfold DoneS Done
    rintro e w21 ⟨G, rfl, A6', hL, hU⟩
    have HF := Lib.hid (HUy.out.trans (HW1.out.put hL hU).upd)
    clear hadd hL hU HW1
    go_wp2_with fail
    go_ret
    exact ⟨rfl, by have h := HB.out; subst h; exact HF.out.below (Nat.le_refl _) (fun _ _ h => h)⟩
  | false =>
    go_wp2_with fail
    refine (mPackDrop_anyP w14).mono ?_
    unfold Made
    rintro e w15 ⟨a8, c8, rfl, hv, hf, hV⟩
    have HW := Lib.hid (HW1.out.same hV)
    have hadd := st_drop3 HW.out.log HY.out.1 a8 c8 hv
    clear hv hf hV HW1
    go_wp2_with fail
    refine hadd.mono ?_
    unfold Done
    rintro e w16 ⟨rfl, A5', hL, hU⟩
    have HW1 := Lib.hid (HW.out.put hL hU)
    clear hadd hL hU HW
    have HW := HW1
    clear HW1
    have hpd := mPending_any _ _ lb w16 HW.out.log (show 0 ≤ 1000000000 by decide) (show 0 ≤ 1000000000 by decide) (fun m hm => by cases hm)
    go_wp2_with fail
    refine hpd.mono ?_
    unfold PendC
    rintro e w17 ⟨q, rfl, hqo, hqc, hqi, hV⟩
    have HW1 := Lib.hid (HW.out.same hV)
    have hsp := sPending_any q wt0 w17 hqi (wt0_in _) hqo hqc
    rw [show wtA wt0 = #[.bool false, .bool false, .int .i64 0, .int .i64 0, .slice none 0 0, .int .i64 0, .slice none 0 0] from rfl] at hsp
    clear hqo hqc hqi hV hpd HW
    generalize wtA q = AQ2 at *
    go_wp2_with fail
    refine hsp.mono ?_
    rintro e w18 ⟨rfl, hV⟩
    have HW := Lib.hid (HW1.out.same hV)
    clear hV hsp HW1
    have hrec := mRecordsX HW.out.log
    rw [show (W4 x).n = 3 from rfl] at hrec
    have hat := mAtX HW.out.log (show (0 : Int) ≤ 1 by decide) (show (1 : Int) ≤ 100000 by decide)
    rw [show (W4 x).top - 1 = 0 from rfl] at hat
    go_wp2_with fail
    refine hrec.mono ?_
    rintro e w19 ⟨rfl, rfl⟩
    clear hrec
    go_wp2_with fail
    refine hat.mono ?_
    rintro e w19 ⟨rfl, rfl⟩
    go_wp2_with fail
    refine hat.mono ?_
    rintro e w19 ⟨rfl, rfl⟩
    clear hat
    go_wp2_with fail
    refine (mPackMove_any (-1) false w18).mono ?_
    unfold Made
    rintro e w20 ⟨a9, c9, rfl, hv, hf, hV⟩
    have HW1 := Lib.hid (HW.out.same hV)
    have hadd := st_move5 HW1.out.log HX.out a9 c9 hv
    clear hv hf hV HW
    generalize moveL (-1) false = L10 at *
    go_wp2_with fail
    refine hadd.mono ?_
    unfold DoneS Done
    rintro e w21 ⟨G, rfl, A6', hL, hU⟩
    have HF := Lib.hid (HUy.out.trans (HW1.out.put hL hU).upd)
    clear hadd hL hU HW1
    go_wp2_with fail
    go_ret
    exact ⟨rfl, by have h := HB.out; subst h; exact HF.out.below (Nat.le_refl _) (fun _ _ h => h)⟩
end Go.Proofs.YtccejkikphpnfaaGreatDoor

namespace Go.Proofs.YtccejkikphpnfaaGreatDoor
set_option linter.unusedSimpArgs false
set_option linter.unusedVariables false
set_option maxRecDepth 100000
open Go.ChangeShapes Go.WideShapes Go.ChangeAt Go.RowKit

theorem bulk_append {H : Type} (l r : List (DataW H)) : Rows.uptoBulkAll (l ++ r) = Rows.uptoBulkAll l + Rows.uptoBulkAll r := by
  induction l with
  | nil => simp [Rows.uptoBulkAll]
  | cons x l ih => simp only [List.cons_append, Rows.uptoBulkAll, ih]; omega
theorem bulk_one {H : Type} (d : DataW H) : 1 ≤ Rows.uptoBulk d := by
  cases d with
  | lit l => cases l <;> simp [Rows.uptoBulk]
  | nil => simp [Rows.uptoBulk]
  | ptr d => simp [Rows.uptoBulk]
  | slice elems spare => simp [Rows.uptoBulk]
  | agg parts => simp [Rows.uptoBulk]
  | iface t d => simp [Rows.uptoBulk]
  | map entries => simp [Rows.uptoBulk]
  | held h => simp [Rows.uptoBulk]
section
variable {H : Type} {enc : TypeId × Value → H} {W : World}
theorem open_elemsB {X : Type} (dec : X → List Value) (good : X → Prop) (f : X → List UInt8) (t e : TypeId) (k : Nat) (ht : Tryz.prog.underlying t = some (.slice e)) (hk : Tryz.prog.cellsOf e = k) (h0 : 0 < k) (hl : ∀ x, (dec x).length = k)
    (hdec : ∀ fuel cs y, cs.length = k → DataW.trod enc Tryz.prog W 0 (fun _ => true) true fuel e cs = some y → ∃ x, cs = dec x ∧ good x ∧ (f x).length ≤ 16 * Rows.uptoBulk y.1)
    {fuel : Nat} {cs : List Value} {y : DataW H × List MemPlace} (h : DataW.trod enc Tryz.prog W 0 (fun _ => true) true fuel t cs = some y) :
    ∃ (a : Option Addr) (c : Nat) (xs : List X), cs = [.slice a xs.length c] ∧ Vw W a xs.length c k (xs.flatMap dec) ∧ (∀ x ∈ xs, good x) ∧ (xs.flatMap f).length ≤ 16 * Rows.uptoBulk y.1 := by
  subst hk
  rcases DataW.trod_slice ht h with ⟨rfl, rfl⟩ | ⟨a, len, cap, elems, rest, n, _, rfl, rfl, hb, hlc, hm, hlen, hel, hsp, hns⟩
  · exact ⟨none, 0, [], rfl, Vw.nl _ _, (fun x hx => by cases hx), by simp⟩
  · have each : ∀ i, (hi : i < elems.length) → ∃ cs x, W.cells? 0 (a.add (i * Tryz.prog.cellsOf e)) (Tryz.prog.cellsOf e) = some cs ∧ cs = dec x ∧ good x ∧ (f x).length ≤ 16 * Rows.uptoBulk elems[i].1 := by
      intro i hi
      have h1 := hel i (by omega)
      rw [List.getElem?_eq_getElem hi] at h1
      obtain ⟨cs, hcs, htr⟩ := Option.bind_eq_some_iff.1 h1
      obtain ⟨x, hx, hg, hf⟩ := hdec n cs _ (cells?_get hcs).1 htr
      exact ⟨cs, x, hcs, hx, hg, hf⟩
    have all : ∀ m, m ≤ len → ∃ xs : List X, xs.length = m ∧ (∀ x ∈ xs, good x) ∧ (xs.flatMap f).length ≤ 16 * Rows.uptoBulkAll ((elems.take m).map (·.1)) ∧ ∀ i x, xs[i]? = some x → W.cells? 0 (a.add (i * Tryz.prog.cellsOf e)) (Tryz.prog.cellsOf e) = some (dec x) := by
      intro m
      induction m with
      | zero => intro _; exact ⟨[], rfl, (fun x hx => by cases hx), by simp, (fun i x hx => by simp at hx)⟩
      | succ m ih =>
        intro hm
        obtain ⟨xs, hx1, hx2, hx4, hx3⟩ := ih (by omega)
        obtain ⟨cs, x, hcs, rfl, hg, hf⟩ := each m (by omega)
        refine ⟨xs ++ [x], by simp [hx1], ?_, ?_, ?_⟩
        · intro z hz
          rcases List.mem_append.1 hz with hz | hz
          · exact hx2 z hz
          · simp at hz; subst hz; exact hg
        · rw [List.take_succ_eq_append_getElem (by omega), List.map_append, bulk_append, List.flatMap_append, List.length_append]
          simp only [List.flatMap_cons, List.flatMap_nil, List.append_nil, List.map_cons, List.map_nil, Rows.uptoBulkAll, Nat.add_zero]
          omega
        · intro i z hz
          rcases Nat.lt_or_ge i xs.length with hi | hi
          · rw [List.getElem?_append_left hi] at hz; exact hx3 i z hz
          · rw [List.getElem?_append_right hi] at hz
            have : i = xs.length := by
              have := (List.getElem?_eq_some_iff.1 hz).1
              simp at this; omega
            subst this
            simp at hz
            subst hz
            rw [hx1]; exact hcs
    obtain ⟨xs, hx1, hx2, hx4, hx3⟩ := all len (Nat.le_refl _)
    have hcell : ∀ j u, (xs.flatMap dec)[j]? = some u → W.cell? (a.add j) = some u := by
      intro j u hu
      have hj : j = j / Tryz.prog.cellsOf e * Tryz.prog.cellsOf e + j % Tryz.prog.cellsOf e := by rw [Nat.mul_comm]; exact (Nat.div_add_mod _ _).symm
      have hr := Nat.mod_lt j h0
      rw [hj] at hu
      rw [flatMap_get dec _ hl xs _ _ hr] at hu
      obtain ⟨x, hx, hxu⟩ := Option.bind_eq_some_iff.1 hu
      have := (cells?_get (hx3 _ x hx)).2 _ hr
      rw [Addr.add_add, ← hj] at this
      rw [this]; exact hxu
    refine ⟨some a, cap, xs, by rw [hx1], ⟨by rw [flatMap_length dec _ hl], by omega, hm, (fun h => by cases h), (fun z hz => by cases hz; exact hcell)⟩, hx2, ?_⟩
    rw [List.take_of_length_le (by omega)] at hx4
    simp only [Rows.uptoBulk]
    omega
theorem key_list {fuel : Nat} {cs : List Value} {y : DataW H × List MemPlace} (hf : DataW.trod enc Tryz.prog W 0 (fun _ => true) true fuel 52 cs = some y) : ∃ x : List UInt8, cs = bvs x ∧ x.length = 32 := by
  obtain ⟨xs, m, _, _, hlen, hl, hel⟩ := DataW.trod_array Tryz.underlying52 hf
  have hc1 : Tryz.prog.cellsOf 5 = 1 := by kernel_rfl
  have hc32 : Tryz.prog.cellsOf 52 = 32 := by kernel_rfl
  rw [hc32] at hlen
  have hcs : ∀ i, i < 32 → ∃ b : UInt8, cs[i]? = some (bv b) := by
    intro i hi
    have he := hel i hi
    rw [hc1, Nat.mul_one] at he
    have hx : i < xs.length := by omega
    rw [List.getElem?_eq_getElem hx] at he
    obtain ⟨a, ea, _, wa⟩ := DataW.trod_int Tryz.underlying5 he
    have hb := bounds_u8 wa
    refine ⟨UInt8.ofNat a.toNat, ?_⟩
    have h0 : (cs.drop i)[0]? = some (.int .u8 a) := by
      have : ((cs.drop i).take 1)[0]? = some (.int .u8 a) := by rw [ea]; rfl
      simpa [List.getElem?_take] using this
    rw [List.getElem?_drop] at h0
    rw [Nat.add_zero] at h0
    rw [h0]
    unfold bv
    rw [UInt8.toNat_ofNat']
    congr 2
    omega
  have key : ∀ (l : List Value), (∀ i, i < l.length → ∃ b : UInt8, l[i]? = some (bv b)) → ∃ x, l = bvs x := by
    intro l
    induction l with
    | nil => intro _; exact ⟨[], rfl⟩
    | cons v l ih =>
      intro h
      obtain ⟨b, hb⟩ := h 0 (by simp)
      obtain ⟨x, hx⟩ := ih (fun i hi => h (i + 1) (by simpa using hi))
      refine ⟨b :: x, ?_⟩
      simp at hb
      rw [hb, hx]; rfl
  obtain ⟨x, hx⟩ := key cs (fun i hi => hcs i (by omega))
  refine ⟨x, hx, ?_⟩
  rw [hx] at hlen
  simpa [bvs] using hlen
theorem flat_iv : ∀ (l : List Int), l.flatMap (fun x => [iv x]) = l.map iv
  | [] => rfl
  | x :: l => by rw [List.flatMap_cons, flat_iv l, List.map_cons]; rfl
theorem open_ints {fuel : Nat} {cs : List Value} {y : DataW H × List MemPlace} (hy : DataW.trod enc Tryz.prog W 0 (fun _ => true) true fuel 49 cs = some y) :
    ∃ (a : Option Addr) (c : Nat) (xs : List Int), cs = [.slice a xs.length c] ∧ Vw W a xs.length c 1 (xs.map iv) := by
  obtain ⟨a, c, xs, h1, h2, _, _⟩ := open_elemsB (fun x => [iv x]) (fun _ => True) (fun _ => []) 49 3 1 Tryz.underlying49 (by kernel_rfl) (by decide) (fun _ => rfl) (fun fuel cs y hl hy => by
    obtain ⟨n, e, _, _⟩ := DataW.trod_int Tryz.underlying3 hy
    exact ⟨n, e, trivial, by simp⟩) hy
  rw [flat_iv] at h2
  exact ⟨a, c, xs, h1, h2⟩
theorem open_kys {fuel : Nat} {cs : List Value} {y : DataW H × List MemPlace} (hy : DataW.trod enc Tryz.prog W 0 (fun _ => true) true fuel 22 cs = some y) :
    ∃ (a : Option Addr) (c : Nat) (xs : List Ky), cs = [.slice a xs.length c] ∧ Vw W a xs.length c 32 (xs.flatMap kyV) := by
  obtain ⟨a, c, xs, h1, h2, _, _⟩ := open_elemsB kyV (fun _ => True) (fun _ => []) 22 52 32 Tryz.underlying22 (by kernel_rfl) (by decide) kyV_len (fun fuel cs y hl hy => by
    obtain ⟨x, e, hx⟩ := key_list hy
    exact ⟨⟨x, hx⟩, e, trivial, by simp⟩) hy
  exact ⟨a, c, xs, h1, h2⟩
theorem open_mkE {fuel : Nat} {cs : List Value} {y : DataW H × List MemPlace} (hl : cs.length = 2) (hy : DataW.trod enc Tryz.prog W 0 (fun _ => true) true fuel 77 cs = some y) :
    ∃ x : Mk, cs = mkV x ∧ MkIn W x ∧ ((fun _ => []) x : List UInt8).length ≤ 16 * Rows.uptoBulk y.1 := by
  obtain ⟨xs, n, _, hx, _, hlen, hg⟩ := DataW.trod_struct Tryz.underlying77 hy
  match cs, hl with
  | [c0, c1], _ =>
    match xs, hlen with
    | [y0, y1], _ =>
      have k0 : Tryz.prog.cellsOf 3 = 1 := by kernel_rfl
      have k1 : Tryz.prog.cellsOf 49 = 1 := by kernel_rfl
      have g0 : DataW.trod enc Tryz.prog W 0 (fun _ => true) true n 3 (([c0, c1].drop 0).take (Tryz.prog.cellsOf 3)) = some y0 := hg 0 _ rfl
      have g1 : DataW.trod enc Tryz.prog W 0 (fun _ => true) true n 49 (([c0, c1].drop 1).take (Tryz.prog.cellsOf 49)) = some y1 := hg 1 _ rfl
      rw [k0] at g0
      rw [k1] at g1
      obtain ⟨n0, e0, f0, _⟩ := DataW.trod_int Tryz.underlying3 g0
      obtain ⟨a1, q1, x1, e1, v1⟩ := open_ints g1
      simp at e0 e1
      subst e0 e1
      exact ⟨⟨n0, x1, a1, q1⟩, rfl, v1, by simp⟩
theorem open_nmE {fuel : Nat} {cs : List Value} {y : DataW H × List MemPlace} (hl : cs.length = 2) (hy : DataW.trod enc Tryz.prog W 0 (fun _ => true) true fuel 92 cs = some y) :
    ∃ x : Nm, cs = nmV x ∧ x.name.length ≤ maxLen ∧ ((fun _ => []) x : List UInt8).length ≤ 16 * Rows.uptoBulk y.1 := by
  obtain ⟨xs, n, _, hx, _, hlen, hg⟩ := DataW.trod_struct Tryz.underlying92 hy
  match cs, hl with
  | [c0, c1], _ =>
    match xs, hlen with
    | [y0, y1], _ =>
      have k0 : Tryz.prog.cellsOf 9 = 1 := by kernel_rfl
      have k1 : Tryz.prog.cellsOf 3 = 1 := by kernel_rfl
      have g0 : DataW.trod enc Tryz.prog W 0 (fun _ => true) true n 9 (([c0, c1].drop 0).take (Tryz.prog.cellsOf 9)) = some y0 := hg 0 _ rfl
      have g1 : DataW.trod enc Tryz.prog W 0 (fun _ => true) true n 3 (([c0, c1].drop 1).take (Tryz.prog.cellsOf 3)) = some y1 := hg 1 _ rfl
      rw [k0] at g0
      rw [k1] at g1
      obtain ⟨s0, e0, f0, l0⟩ := DataW.trod_string Tryz.underlying9 g0
      obtain ⟨n1, e1, f1, _⟩ := DataW.trod_int Tryz.underlying3 g1
      simp at e0 e1
      subst e0 e1
      exact ⟨⟨s0.data.toList, n1⟩, by simp [nmV, sv, str_data], by rw [Array.length_toList]; exact l0, by simp⟩
theorem open_flE {fuel : Nat} {cs : List Value} {y : DataW H × List MemPlace} (hl : cs.length = 3) (hy : DataW.trod enc Tryz.prog W 0 (fun _ => true) true fuel 103 cs = some y) :
    ∃ x : Fl, cs = flV x ∧ (x.path.length ≤ maxLen ∧ x.text.length ≤ maxLen) ∧ (encF x).length ≤ 16 * Rows.uptoBulk y.1 := by
  obtain ⟨xs, n, _, hx, _, hlen, hg⟩ := DataW.trod_struct Tryz.underlying103 hy
  match cs, hl with
  | [c0, c1, c2], _ =>
    match xs, hlen with
    | [y0, y1, y2], _ =>
      have k0 : Tryz.prog.cellsOf 9 = 1 := by kernel_rfl
      have k1 : Tryz.prog.cellsOf 4 = 1 := by kernel_rfl
      have k2 : Tryz.prog.cellsOf 9 = 1 := by kernel_rfl
      have g0 : DataW.trod enc Tryz.prog W 0 (fun _ => true) true n 9 (([c0, c1, c2].drop 0).take (Tryz.prog.cellsOf 9)) = some y0 := hg 0 _ rfl
      have g1 : DataW.trod enc Tryz.prog W 0 (fun _ => true) true n 4 (([c0, c1, c2].drop 1).take (Tryz.prog.cellsOf 4)) = some y1 := hg 1 _ rfl
      have g2 : DataW.trod enc Tryz.prog W 0 (fun _ => true) true n 9 (([c0, c1, c2].drop 2).take (Tryz.prog.cellsOf 9)) = some y2 := hg 2 _ rfl
      rw [k0] at g0
      rw [k1] at g1
      rw [k2] at g2
      obtain ⟨s0, e0, f0, l0⟩ := DataW.trod_string Tryz.underlying9 g0
      obtain ⟨b1, e1, f1⟩ := DataW.trod_bool Tryz.underlying4 g1
      obtain ⟨s2, e2, f2, l2⟩ := DataW.trod_string Tryz.underlying9 g2
      simp at e0 e1 e2
      subst e0 e1 e2
      refine ⟨⟨s0.data.toList, b1, s2.data.toList⟩, by simp [flV, sv, str_data], ⟨by rw [Array.length_toList]; exact l0, by rw [Array.length_toList]; exact l2⟩, ?_⟩
      rw [hx, f0, f1, f2, encF_len]
      simp only [List.map_cons, List.map_nil, Rows.uptoBulk, Rows.uptoBulkAll]
      omega
theorem open_fls {fuel : Nat} {cs : List Value} {y : DataW H × List MemPlace} (hy : DataW.trod enc Tryz.prog W 0 (fun _ => true) true fuel 78 cs = some y) :
    ∃ (a : Option Addr) (c : Nat) (xs : List Fl), cs = [.slice a xs.length c] ∧ Vw W a xs.length c 3 (xs.flatMap flV) ∧ (∀ x ∈ xs, x.path.length ≤ maxLen ∧ x.text.length ≤ maxLen) ∧ (xs.flatMap encF).length ≤ 16 * Rows.uptoBulk y.1 :=
  open_elemsB flV (fun x => x.path.length ≤ maxLen ∧ x.text.length ≤ maxLen) encF 78 103 3 Tryz.underlying78 (by kernel_rfl) (by decide) (fun _ => rfl) (fun fuel cs y hl hy => open_flE hl hy) hy
theorem open_stE {fuel : Nat} {cs : List Value} {y : DataW H × List MemPlace} (hl : cs.length = 2) (hy : DataW.trod enc Tryz.prog W 0 (fun _ => true) true fuel 80 cs = some y) :
    ∃ x : St, cs = stV x ∧ StIn W x ∧ (stB x).length ≤ 16 * Rows.uptoBulk y.1 := by
  obtain ⟨xs, n, _, hx, _, hlen, hg⟩ := DataW.trod_struct Tryz.underlying80 hy
  match cs, hl with
  | [c0, c1], _ =>
    match xs, hlen with
    | [y0, y1], _ =>
      have k0 : Tryz.prog.cellsOf 3 = 1 := by kernel_rfl
      have k1 : Tryz.prog.cellsOf 78 = 1 := by kernel_rfl
      have g0 : DataW.trod enc Tryz.prog W 0 (fun _ => true) true n 3 (([c0, c1].drop 0).take (Tryz.prog.cellsOf 3)) = some y0 := hg 0 _ rfl
      have g1 : DataW.trod enc Tryz.prog W 0 (fun _ => true) true n 78 (([c0, c1].drop 1).take (Tryz.prog.cellsOf 78)) = some y1 := hg 1 _ rfl
      rw [k0] at g0
      rw [k1] at g1
      obtain ⟨n0, e0, f0, _⟩ := DataW.trod_int Tryz.underlying3 g0
      obtain ⟨a1, q1, x1, e1, v1, o1, z1⟩ := open_fls g1
      simp at e0 e1
      subst e0 e1
      refine ⟨⟨n0, x1, a1, q1⟩, rfl, ⟨v1, fun x hx => (o1 x hx).1, fun x hx => (o1 x hx).2⟩, ?_⟩
      rw [hx, stB_len, f0]
      unfold flsB
      rw [List.length_append, i4_length]
      have h1 := bulk_one y1.1
      simp only [List.map_cons, List.map_nil, Rows.uptoBulk, Rows.uptoBulkAll]
      omega
theorem open_clE {fuel : Nat} {cs : List Value} {y : DataW H × List MemPlace} (hl : cs.length = 3) (hy : DataW.trod enc Tryz.prog W 0 (fun _ => true) true fuel 100 cs = some y) :
    ∃ x : Cl, cs = clV x ∧ True ∧ (clB x).length ≤ 16 * Rows.uptoBulk y.1 := by
  obtain ⟨xs, n, _, hx, _, hlen, hg⟩ := DataW.trod_struct Tryz.underlying100 hy
  match cs, hl with
  | [c0, c1, c2], _ =>
    match xs, hlen with
    | [y0, y1, y2], _ =>
      have k0 : Tryz.prog.cellsOf 9 = 1 := by kernel_rfl
      have k1 : Tryz.prog.cellsOf 3 = 1 := by kernel_rfl
      have k2 : Tryz.prog.cellsOf 9 = 1 := by kernel_rfl
      have g0 : DataW.trod enc Tryz.prog W 0 (fun _ => true) true n 9 (([c0, c1, c2].drop 0).take (Tryz.prog.cellsOf 9)) = some y0 := hg 0 _ rfl
      have g1 : DataW.trod enc Tryz.prog W 0 (fun _ => true) true n 3 (([c0, c1, c2].drop 1).take (Tryz.prog.cellsOf 3)) = some y1 := hg 1 _ rfl
      have g2 : DataW.trod enc Tryz.prog W 0 (fun _ => true) true n 9 (([c0, c1, c2].drop 2).take (Tryz.prog.cellsOf 9)) = some y2 := hg 2 _ rfl
      rw [k0] at g0
      rw [k1] at g1
      rw [k2] at g2
      obtain ⟨s0, e0, f0, l0⟩ := DataW.trod_string Tryz.underlying9 g0
      obtain ⟨n1, e1, f1, _⟩ := DataW.trod_int Tryz.underlying3 g1
      obtain ⟨s2, e2, f2, l2⟩ := DataW.trod_string Tryz.underlying9 g2
      simp at e0 e1 e2
      subst e0 e1 e2
      refine ⟨⟨s0.data.toList, n1, s2.data.toList⟩, by simp [clV, sv, str_data], trivial, ?_⟩
      rw [hx, f0, f1, f2, clB_len]
      simp only [List.map_cons, List.map_nil, Rows.uptoBulk, Rows.uptoBulkAll]
      omega
theorem open_rtE {fuel : Nat} {cs : List Value} {y : DataW H × List MemPlace} (hl : cs.length = 5) (hy : DataW.trod enc Tryz.prog W 0 (fun _ => true) true fuel 26 cs = some y) :
    ∃ x : Rt, cs = (rtA x).toList ∧ RtIn W x ∧ True := by
  obtain ⟨xs, n, _, hx, _, hlen, hg⟩ := DataW.trod_struct Tryz.underlying26 hy
  match cs, hl with
  | [c0, c1, c2, c3, c4], _ =>
    match xs, hlen with
    | [y0, y1, y2, y3, y4], _ =>
      have k0 : Tryz.prog.cellsOf 3 = 1 := by kernel_rfl
      have k1 : Tryz.prog.cellsOf 22 = 1 := by kernel_rfl
      have k2 : Tryz.prog.cellsOf 23 = 1 := by kernel_rfl
      have k3 : Tryz.prog.cellsOf 24 = 1 := by kernel_rfl
      have k4 : Tryz.prog.cellsOf 3 = 1 := by kernel_rfl
      have g0 : DataW.trod enc Tryz.prog W 0 (fun _ => true) true n 3 (([c0, c1, c2, c3, c4].drop 0).take (Tryz.prog.cellsOf 3)) = some y0 := hg 0 _ rfl
      have g1 : DataW.trod enc Tryz.prog W 0 (fun _ => true) true n 22 (([c0, c1, c2, c3, c4].drop 1).take (Tryz.prog.cellsOf 22)) = some y1 := hg 1 _ rfl
      have g2 : DataW.trod enc Tryz.prog W 0 (fun _ => true) true n 23 (([c0, c1, c2, c3, c4].drop 2).take (Tryz.prog.cellsOf 23)) = some y2 := hg 2 _ rfl
      have g3 : DataW.trod enc Tryz.prog W 0 (fun _ => true) true n 24 (([c0, c1, c2, c3, c4].drop 3).take (Tryz.prog.cellsOf 24)) = some y3 := hg 3 _ rfl
      have g4 : DataW.trod enc Tryz.prog W 0 (fun _ => true) true n 3 (([c0, c1, c2, c3, c4].drop 4).take (Tryz.prog.cellsOf 3)) = some y4 := hg 4 _ rfl
      rw [k0] at g0
      rw [k1] at g1
      rw [k2] at g2
      rw [k3] at g3
      rw [k4] at g4
      obtain ⟨n0, e0, f0, _⟩ := DataW.trod_int Tryz.underlying3 g0
      obtain ⟨a1, q1, x1, e1, v1⟩ := open_kys g1
      obtain ⟨a2, q2, x2, e2, v2, o2, z2⟩ := open_elemsB (mkV) (MkIn W) (fun _ => []) 23 77 2 Tryz.underlying23 (by kernel_rfl) (by decide) ((fun _ => rfl)) (fun fuel cs y hl hy => open_mkE hl hy) g2
      obtain ⟨a3, q3, x3, e3, v3, o3, z3⟩ := open_elemsB (nmV) (fun x => x.name.length ≤ maxLen) (fun _ => []) 24 92 2 Tryz.underlying24 (by kernel_rfl) (by decide) ((fun _ => rfl)) (fun fuel cs y hl hy => open_nmE hl hy) g3
      obtain ⟨n4, e4, f4, _⟩ := DataW.trod_int Tryz.underlying3 g4
      simp at e0 e1 e2 e3 e4
      subst e0 e1 e2 e3 e4
      exact ⟨⟨n0, a1, q1, x1, a2, q2, x2, a3, q3, x3, n4⟩, rfl, ⟨v1, v2, o2, v3, o3⟩, trivial⟩
theorem open_wtE {fuel : Nat} {cs : List Value} {y : DataW H × List MemPlace} (hl : cs.length = 7) (hy : DataW.trod enc Tryz.prog W 0 (fun _ => true) true fuel 30 cs = some y) :
    ∃ x : Wt, cs = (wtA x).toList ∧ WtIn W x ∧ (waitG x).length ≤ 22 + 16 * Rows.uptoBulk y.1 := by
  obtain ⟨xs, n, _, hx, _, hlen, hg⟩ := DataW.trod_struct Tryz.underlying30 hy
  match cs, hl with
  | [c0, c1, c2, c3, c4, c5, c6], _ =>
    match xs, hlen with
    | [y0, y1, y2, y3, y4, y5, y6], _ =>
      have k0 : Tryz.prog.cellsOf 4 = 1 := by kernel_rfl
      have k1 : Tryz.prog.cellsOf 4 = 1 := by kernel_rfl
      have k2 : Tryz.prog.cellsOf 3 = 1 := by kernel_rfl
      have k3 : Tryz.prog.cellsOf 3 = 1 := by kernel_rfl
      have k4 : Tryz.prog.cellsOf 27 = 1 := by kernel_rfl
      have k5 : Tryz.prog.cellsOf 3 = 1 := by kernel_rfl
      have k6 : Tryz.prog.cellsOf 28 = 1 := by kernel_rfl
      have g0 : DataW.trod enc Tryz.prog W 0 (fun _ => true) true n 4 (([c0, c1, c2, c3, c4, c5, c6].drop 0).take (Tryz.prog.cellsOf 4)) = some y0 := hg 0 _ rfl
      have g1 : DataW.trod enc Tryz.prog W 0 (fun _ => true) true n 4 (([c0, c1, c2, c3, c4, c5, c6].drop 1).take (Tryz.prog.cellsOf 4)) = some y1 := hg 1 _ rfl
      have g2 : DataW.trod enc Tryz.prog W 0 (fun _ => true) true n 3 (([c0, c1, c2, c3, c4, c5, c6].drop 2).take (Tryz.prog.cellsOf 3)) = some y2 := hg 2 _ rfl
      have g3 : DataW.trod enc Tryz.prog W 0 (fun _ => true) true n 3 (([c0, c1, c2, c3, c4, c5, c6].drop 3).take (Tryz.prog.cellsOf 3)) = some y3 := hg 3 _ rfl
      have g4 : DataW.trod enc Tryz.prog W 0 (fun _ => true) true n 27 (([c0, c1, c2, c3, c4, c5, c6].drop 4).take (Tryz.prog.cellsOf 27)) = some y4 := hg 4 _ rfl
      have g5 : DataW.trod enc Tryz.prog W 0 (fun _ => true) true n 3 (([c0, c1, c2, c3, c4, c5, c6].drop 5).take (Tryz.prog.cellsOf 3)) = some y5 := hg 5 _ rfl
      have g6 : DataW.trod enc Tryz.prog W 0 (fun _ => true) true n 28 (([c0, c1, c2, c3, c4, c5, c6].drop 6).take (Tryz.prog.cellsOf 28)) = some y6 := hg 6 _ rfl
      rw [k0] at g0
      rw [k1] at g1
      rw [k2] at g2
      rw [k3] at g3
      rw [k4] at g4
      rw [k5] at g5
      rw [k6] at g6
      obtain ⟨b0, e0, f0⟩ := DataW.trod_bool Tryz.underlying4 g0
      obtain ⟨b1, e1, f1⟩ := DataW.trod_bool Tryz.underlying4 g1
      obtain ⟨n2, e2, f2, _⟩ := DataW.trod_int Tryz.underlying3 g2
      obtain ⟨n3, e3, f3, _⟩ := DataW.trod_int Tryz.underlying3 g3
      obtain ⟨a4, q4, x4, e4, v4, o4, z4⟩ := open_elemsB (stV) (StIn W) (stB) 27 80 2 Tryz.underlying27 (by kernel_rfl) (by decide) ((fun _ => rfl)) (fun fuel cs y hl hy => open_stE hl hy) g4
      obtain ⟨n5, e5, f5, _⟩ := DataW.trod_int Tryz.underlying3 g5
      obtain ⟨a6, q6, x6, e6, v6, o6, z6⟩ := open_elemsB (clV) (fun _ => True) (clB) 28 100 3 Tryz.underlying28 (by kernel_rfl) (by decide) ((fun _ => rfl)) (fun fuel cs y hl hy => open_clE hl hy) g6
      simp at e0 e1 e2 e3 e4 e5 e6
      subst e0 e1 e2 e3 e4 e5 e6
      refine ⟨⟨b0, b1, n2, n3, a4, q4, x4, n5, a6, q6, x6⟩, rfl, ⟨v4, o4, v6⟩, ?_⟩
      rw [hx, waitG_len]
      dsimp only
      simp only [List.map_cons, List.map_nil, Rows.uptoBulk, Rows.uptoBulkAll]
      omega
theorem agg_of {T : TypeId} {fs : Array Field} (hT : Tryz.prog.underlying T = some (.struct fs)) {base : Nat} {v : Value} (hval : Value.okWide Tryz.prog W .any base T v) : ∃ cs : Array Value, v = .agg cs := by
  simp only [Value.okWide, hT] at hval
  obtain ⟨cs, h1, h2, _⟩ := hval
  exact ⟨cs, h1⟩
theorem open_root {base : Nat} {v : Value} {d : DataW H} {ps : List MemPlace} (hval : Value.okWide Tryz.prog W .any base 26 v)
    (h : DataW.Trod enc Tryz.prog W 0 (fun _ => true) true 26 v d ps) : ∃ r : Rt, v = .agg (rtA r) ∧ RtIn W r := by
  obtain ⟨cs, rfl⟩ := agg_of Tryz.underlying26 hval
  obtain ⟨fuel, hf⟩ := h
  simp only [Value.cells] at hf
  have hl : cs.toList.length = 5 := by
    obtain ⟨_, _, _, _, hcl, _, _⟩ := DataW.trod_struct Tryz.underlying26 hf
    exact hcl.trans (by kernel_rfl)
  obtain ⟨r, h1, h2, _⟩ := open_rtE hl hf
  exact ⟨r, by rw [← Array.toList_inj.1 h1], h2⟩
theorem open_wait {base : Nat} {v : Value} {d : DataW H} {ps : List MemPlace} (hval : Value.okWide Tryz.prog W .any base 30 v)
    (h : DataW.Trod enc Tryz.prog W 0 (fun _ => true) true 30 v d ps) : ∃ p : Wt, v = .agg (wtA p) ∧ WtIn W p ∧ (waitG p).length ≤ 22 + 16 * Rows.uptoBulk d := by
  obtain ⟨cs, rfl⟩ := agg_of Tryz.underlying30 hval
  obtain ⟨fuel, hf⟩ := h
  simp only [Value.cells] at hf
  have hl : cs.toList.length = 7 := by
    obtain ⟨_, _, _, _, hcl, _, _⟩ := DataW.trod_struct Tryz.underlying30 hf
    exact hcl.trans (by kernel_rfl)
  obtain ⟨p, h1, h2, h3⟩ := open_wtE hl hf
  exact ⟨p, by rw [← Array.toList_inj.1 h1], h2, h3⟩
end
end Go.Proofs.YtccejkikphpnfaaGreatDoor

namespace Go.Proofs.YtccejkikphpnfaaGreatDoor.metalogWaits
set_option linter.unusedVariables false
open Go.ChangeShapes Go.WideShapes Go.ChangeAt Go.RowKit
open Go.ChangeMaps (open_string shut_string)

noncomputable def wWorld (os : Os) : World := World.laidAll Tryz.prog os Rows.metalogWaitsUptoRow.laid
theorem reads (os : Os) {H : Type} (enc : TypeId × Value → H) : ∃ places, DataW.whole enc Tryz.prog ((wWorld os).forCall (fun _ _ => 0) ⟨#[], #[.agg #[.bool false, .bool false, .int .i64 0, .int .i64 0, .slice none 0 0, .int .i64 0, .slice none 0 0], .bool false], []⟩).memory Tryz.f4.params.toList Rows.metalogWaitsSpec.vars false #[.agg #[.bool false, .bool false, .int .i64 0, .int .i64 0, .slice none 0 0, .int .i64 0, .slice none 0 0], .bool false].toList 8 = some ([.agg [.lit (.bool false), .lit (.bool false), .lit (.int .i64 0), .lit (.int .i64 0), .nil, .lit (.int .i64 0), .nil], .lit (.bool false)], [], places) :=
  ⟨[], by kernel_rfl⟩
set_option maxRecDepth 100000 in
theorem lifted (os : Os) (started : os.Started) (H : Type) (enc : TypeId × Value → H) (F : Stop.Interp) :
    ReturnsInHanded {} Tryz.checked os 4 .any ((Rows.OpenSpec.upto Rows.metalogWaitsSpec).preRow enc Tryz.prog Tryz.f4 Rows.metalogWaitsUptoRow.domain false Rows.metalogWaitsUptoRow.laid) (((Rows.OpenSpec.upto Rows.metalogWaitsSpec).at F).post enc Tryz.prog Tryz.f4 false true false false) := by
  obtain ⟨places, hx⟩ := reads os enc
  refine returnsInHanded_of_row (C := Tryz.checked) (s := Rows.OpenSpec.upto Rows.metalogWaitsSpec) Frame.own started (by kernel_rfl) Tryz.func4
    ⟨wWorld os, fun _ _ => 0, ⟨#[], #[.agg #[.bool false, .bool false, .int .i64 0, .int .i64 0, .slice none 0 0, .int .i64 0, .slice none 0 0], .bool false], []⟩, World.laidAll_os _ _ _, World.shaped_of_ZipB (by kernel_rfl) (by kernel_rfl), rfl,
      (Input.okWide_of_okWideB (show Input.okWideB Tryz.prog ((wWorld os).forCall (fun _ _ => 0) ⟨#[], #[.agg #[.bool false, .bool false, .int .i64 0, .int .i64 0, .slice none 0 0, .int .i64 0, .slice none 0 0], .bool false], []⟩) 4 ⟨#[], #[.agg #[.bool false, .bool false, .int .i64 0, .int .i64 0, .slice none 0 0, .int .i64 0, .slice none 0 0], .bool false], []⟩ = true by kernel_rfl)).2,
      OpenSpec.preRow_of_cond 8 hx (by kernel_rfl) (fun k hk => by cases hk; kernel_rfl) (by kernel_rfl)
        (by rw [MakeChecks.laidMetH_plain _ _ _ (by kernel_rfl)]; exact laidMet_laidAll _ (by kernel_rfl) (by kernel_rfl)), by
        simp only [Assume.holds]
        exact ⟨by simp, by simp, fun _ => Modest.zero, by simp, by simp⟩⟩ ?_
  intro W base args ds gs before hval0 hW _ hk _ hL _ _
  have hb : Rows.uptoBulkAll (ds ++ gs) ≤ 1048576 := of_decide_eq_true (hk _ rfl)
  show Calls Tryz.prog 4 args W fun e W' => ∃ v, e = .returned v ∧ Rows.metalogWaitsSpec.post enc Tryz.prog Tryz.f4 false true false false W args v W'
  have hval : ∀ (j : Nat) t v, Tryz.f4.params[j]? = some t → args[j]? = some v → Value.okWide Tryz.prog W .any base t v := hval0
  have hW' := hW
  obtain ⟨p, q, hA0, hV, rfl, hfz, hnd⟩ := hW
  have hA : DataW.TrodAll enc Tryz.prog W 0 (fun _ => true) true Tryz.f4.params.toList args.toList ds p := hA0
  rw [Tryz.params4] at hA hval
  have hA1 := hA
  obtain ⟨v0, vs0, d0, ds0, p0, q0, hargs, rfl, rfl, h0, r0⟩ := trodAll_cons hA
  obtain ⟨v1, vs1, d1, ds1, p1, q1, rfl, rfl, rfl, h1, r1⟩ := trodAll_cons r0
  obtain ⟨rfl, rfl, rfl⟩ := trodAll_nil r1
  obtain rfl : args = #[v0, v1] := by cases args; simp_all
  obtain ⟨rfl, rfl⟩ := trodVars_none hV
  obtain ⟨a0, rfl, w0, b0⟩ := open_wait (hval 0 30 v0 rfl rfl) h0
  obtain ⟨a1, rfl, rfl, rfl⟩ := open_bool Tryz.underlying4 (hval 1 4 v1 rfl rfl) h1
  clear hA0 hval0
  simp only [List.cons_append, List.nil_append, Rows.uptoBulkAll] at hb
  refine (MetalogWaits_walk W a0 w0 (by omega) a1).mono fun e W' ⟨he, bel⟩ => ?_
  subst he
  exact ⟨_, rfl, _, _, _, [], _, [], hW', trodAll_mk1 (shut_bool Tryz.underlying4 _), trodAll_below Frame.laidOut bel _ _ _ _ (by kernel_rfl) hA1, rfl, bel.frame _, fun h => by cases h⟩

theorem over : Rows.metalogWaitsUptoRow.holds Tryz.pinned (Rows.OpenSpec.upto Rows.metalogWaitsSpec) :=
  OpenClaim.holds_of_cond 4 Tryz.f4 rfl rfl rfl rfl rfl rfl rfl ⟨rfl, rfl, rfl, rfl, rfl⟩ rfl rfl rfl rfl rfl (by kernel_rfl) Tryz.func4 (by kernel_rfl)
    (of_decide_eq_true (by kernel_rfl)) (by unfold Func.isWrapper; first | (rw [if_pos (by decide +kernel)]; kernel_rfl) | (rw [if_neg (by decide +kernel)]; exact ⟨rfl, rfl⟩))
    (fun os started H enc _ F => by rw [OpenClaim.pre_eq_preRow]; exact lifted os started H enc F)

theorem provedUpto : Rows.MetalogWaitsUptoCardSaid :=
  Claim7.holds_tied_plain_at .later [] [.data, .pinned] true (true, "b60388af3aab03b11bb93a3aff3ad291aef62039b8479713a10d4b838c6a71a4") false over (fun _ h => by cases h) (by kernel_rfl) (fun _ h => by cases h) metalogWaitsUpto_row_tie rfl ⟨rfl, rfl⟩ (by kernel_rfl) rfl
    (fun f fn hf hfn => by
      obtain rfl : f = 4 := Option.some.inj ((show Tryz.prog.funcNamed "rick/ricklaw21.MetalogWaits" = some 4 by kernel_rfl).symm.trans hf) |>.symm
      obtain rfl : fn = Tryz.f4 := (Option.some.inj (Tryz.func4.symm.trans hfn)).symm
      exact ⟨by kernel_rfl, fun j t ht => by
        rw [Tryz.params4] at ht
        have hm : t ∈ Tryz.f4.params.toList := by rw [Tryz.params4]; exact Array.mem_def.1 (Array.mem_of_getElem? ht)
        have hall : (Tryz.f4.params.toList.all fun u => !Tryz.prog.wantsStandIn u) = true := by kernel_rfl
        exact (show Tryz.prog.wantsStandIn t = false by simpa using List.all_eq_true.1 hall t hm)⟩)
    (by kernel_rfl)
#print axioms provedUpto
end Go.Proofs.YtccejkikphpnfaaGreatDoor.metalogWaits
