
/- The document's log: addRoot. -/
import Derived.Test.YtccejkikphpnfaaGreatDoorQ40
import Derived.Test.YtccejkikphpnfaaGreatDoorQ42
namespace Go.Proofs.YtccejkikphpnfaaGreatDoor
set_option linter.unusedSimpArgs false
set_option linter.unusedVariables false
set_option maxRecDepth 100000
open Go.ChangeShapes Go.WideShapes Go.ChangeAt Go.RowKit
theorem okRoot_clean {l : List UInt8} (h : okRoot l = true) : (rootS (s1L l)).2.e = 0 := by
 unfold okRoot at h
 rw [Bool.and_eq_true] at h
 have hg : rootGC (rootS (s1L l)).1 = l := eq_of_beq h.2
 have := root_back (rootS (s1L l)).1 h.1
 rw [hg] at this
 rw [this.2]
theorem flat_rtC (rr : List Rt) : (rr.map rtC).flatMap (·.ks) = rr.flatMap (·.ks) := by
 induction rr with
 | nil => rfl
 | cons x rr ih => rw [List.map_cons, List.flatMap_cons, List.flatMap_cons, ih]; rfl
set_option maxHeartbeats 32000000 in
theorem rAddRoot_any (m : MS) (g : RX) (A : RA) (rb lb : Nat) (a : Option Addr) (c : Nat) (l : List UInt8) (w : World) (h : RefX w rb lb g A) (ht : Twin m g) (hi : MSI m) (hj : m.cs = m.rr.flatMap (·.ks)) (hv : Vw w a l.length c 1 (bvs l)) (h1 : 1 ≤ l.length) (hl : l.length ≤ 70000000) (hb : ∀ b, blk a = some b → b < w.heap.size) :
  Calls Tryz.prog 69 #[.pointer (some ⟨rb, 0, none⟩), .slice a l.length c] w (RAdd w rb lb A g.n (if okRoot l = true then (m.root (rootS (s1L l)).1).1 else 5) (if okRoot l = true then (m.root (rootS (s1L l)).1).2 else m)) := by
 have hU0 := Upd.alloc (fun _ => False) w (.cells #[.slice a l.length c, .int .i64 1, .int .i64 0] 149)
 have hrf := rf_new1 w a c l hv h1 (by omega) hb
 have hz0 : (w.alloc (.cells #[.slice a l.length c, .int .i64 1, .int .i64 0] 149)).heap.size = w.heap.size + 1 := by simp
 have hcw := r21root_any w.heap.size (blk a) (s1L l) _ hrf (fun q hq => by have := hb q hq; omega)
 have hOK : okRoot l = (rootBC (rootS (s1L l)).1 && (rootGC (rootS (s1L l)).1 == l)) := rfl
 have hcl := fun h => okRoot_clean (l := l) h
 have hks : (rootS (s1L l)).1.ks.length ≤ 100000001 := by
  have h2 : (rootS (s1L l)).1.ks = (someS kyS (takeS 4 (s1L l)).2).1 := rfl
  rw [h2]
  have h3 := (someS_len ky_eats (takeS 4 (s1L l)).2).1
  have h4 := takeS_len 4 (s1L l)
  have h5 : (s1L l).l.length ≤ l.length := by unfold s1L; exact takeS_len 1 _
  omega
 generalize okRoot l = OK at *
 generalize (rootS (s1L l)).1 = cw at *
 generalize (rootS (s1L l)).2 = s2 at *
 obtain ⟨E0, hE0⟩ : ∃ E, E = (if OK = true then (m.root cw).1 else 5) := ⟨_, rfl⟩
 obtain ⟨m0, hm0⟩ : ∃ E, E = (if OK = true then (m.root cw).2 else m) := ⟨_, rfl⟩
 rw [← hE0, ← hm0]
 have HN0 : Hid (OK = false → E0 = 5 ∧ m0 = m) := Lib.hid (fun h => by rw [hE0, hm0, h]; exact ⟨rfl, rfl⟩)
 have HN1 : Hid (OK = true → (E0, m0) = m.root cw) := Lib.hid (fun h => by rw [hE0, hm0, h]; rfl)
 clear hE0 hm0
 have hrr : m.rr.length = g.rr.length := by rw [ht.rr, List.length_map]
 have hcs : m.cs.length = (g.rr.flatMap (·.ks)).length := by rw [hj, ht.rr, flat_rtC]
 have htp : m.top - 1 = g.at_ := by rw [ht.top]; omega
 have hroot : m.root cw = if cw.p ≠ g.at_ then (5, m) else if 2000 ≤ g.rr.length ∨ 2000 < (g.rr.flatMap (·.ks)).length + cw.ks.length then (6, m) else (0, ⟨m.rr ++ [cw], m.fs ++ [(m.cs.length : Int)], m.cs ++ cw.ks, (m.rr.length : Int) + 1, [], false, wc0, m.n + 1⟩) := by
  unfold MS.root
  rw [htp, hrr, hcs]
 have HRT := Lib.hid hroot
 have hmr := hi.rr
 have hmc := hi.cs
 rw [hrr] at hmr
 rw [hcs] at hmc
 have HRB := Lib.hid (And.intro hmr (And.intro hmc hrr))
 have HG := Lib.hid (And.intro h (And.intro ht (And.intro hv (And.intro hb hU0))))
 have HOK := Lib.hid (And.intro hOK hcl)
 have HKL := Lib.hid hks
 clear h ht hv hb hU0 hrf hOK hcl h1 hi hj hrr hcs htp hroot hmr hmc hks
 go_enter Tryz.func69, Tryz.ntmps69
 go_wp2_with fail
 refine hcw.mono ?_
 unfold GotRtR
 rintro e w1 ⟨r, rfl, hpc, hin, hbl, hR, hU⟩
 have hrl := HG.out.1.lt
 have hz1 := hU.size
 have hUw : Upd (fun _ => False) w w1 := HG.out.2.2.2.2.next hU (fun i hi e => by omega)
 have hzr := heap_alloc_new w1 (.cells #[.int .i64 0, .slice none 0 0, .slice none 0 0, .slice none 0 0, .int .i64 0] 26)
 have hUz := Upd.alloc (fun _ => False) w1 (.cells #[.int .i64 0, .slice none 0 0, .slice none 0 0, .slice none 0 0, .int .i64 0] 26)
 have hUs := Upd.setRow (S := fun k => k = w1.heap.size) (w1.alloc (.cells #[.int .i64 0, .slice none 0 0, .slice none 0 0, .slice none 0 0, .int .i64 0] 26)) (b := w1.heap.size) rfl (rtA r)
 have hU2 : Upd (fun _ => False) w1 ((w1.alloc (.cells #[.int .i64 0, .slice none 0 0, .slice none 0 0, .slice none 0 0, .int .i64 0] 26)).setRow w1.heap.size (rtA r)) := hUz.next hUs (fun i hi e => by omega)
 have hrow2 := setRow_heap _ _ _ (rtA r) _ _ hzr
 have hpk := r21PackRoot_gen r _ (hin.upd hU2)
 have hsz : (Tryz.prog.info? 26).map (·.size) = some (rtA r).size := by rw [infoRoot]; rfl
 have h5 : (rtA r).size = 5 := rfl
 have hone := rtA_one r
 have hFL := root_fillR r
 have hr0 : (rtA r)[0]? = some (.int .i64 r.p) := rfl
 have hr1 : (rtA r)[1]? = some (.slice r.ca r.ks.length r.cc) := rfl
 have HA := Lib.hid (And.intro hsz (And.intro h5 (And.intro hone (And.intro hFL (And.intro hr0 hr1)))))
 have hwR : rootGR r = if rootBC cw = true then rootGC cw else [] := by unfold rootGR; rw [rootB_c, rootG_c, hpc]
 have hwE : rootGE r = if rootBC cw = true then 0 else 5 := by unfold rootGE; rw [rootB_c, hpc]
 rw [hwR, hwE] at hpk
 obtain ⟨RR, hRR⟩ : ∃ R, R = if rootBC cw = true then rootGC cw else [] := ⟨_, rfl⟩
 obtain ⟨EE, hEE⟩ : ∃ E, E = if rootBC cw = true then (0 : Int) else 5 := ⟨_, rfl⟩
 rw [← hRR, ← hEE] at hpk
 have HRE : Hid ((rootBC cw = true → RR = rootGC cw ∧ EE = 0) ∧ (rootBC cw = false → EE = 5)) := Lib.hid ⟨fun h => by rw [hRR, hEE, if_pos h, if_pos h]; exact ⟨rfl, rfl⟩, fun h => by rw [hEE, h]; rfl⟩
 clear hRR hEE
 have HX := Lib.hid (And.intro (hin.upd hU2) (And.intro hbl (And.intro (hR.upd hU2 (fun h => h) (fun _ _ h => h)) (And.intro (hUw.trans hU2) (And.intro hpc hU2.size)))))
 have hbr : w.heap.size ≠ w1.heap.size := by omega
 have hPC : Hid (r.p = cw.p ∧ r.ks = cw.ks) := Lib.hid ⟨by rw [← hpc]; rfl, by rw [← hpc]; rfl⟩
 obtain ⟨r0, hr0'⟩ : ∃ r0, r0 = r := ⟨_, rfl⟩
 have HR0 := Lib.hid hr0'
 have HRV : Hid ((rtA r).toList = rtV r0) := Lib.hid (by rw [hr0']; rfl)
 clear hpc hin hbl hR hU hUz hUs hU2 hsz h5 hone hwR hwE hUw hcw hFL hr0 hr1 hr0'
 generalize hAA : rtA r = AA at *
 have HAA := Lib.hid hAA
 clear hAA
 go_wp2_with first
  | refine wpList_store_row rfl 26 (.tmp 6) (.tmp 13) rfl w1.heap.size AA _ 26 rfl rfl hzr HA.out.1 (by rw [HA.out.2.1]; rfl) HA.out.2.2.1 ?_
  | refine wpList_load_row rfl 26 (.tmp 6) rfl w1.heap.size AA 26 (0, 0) _ rfl hrow2 Tryz.underlying26 rfl HA.out.1 ?_
 refine hpk.mono ?_
 unfold Packed
 rintro e w3 ⟨a3, c3, rfl, hv3, hf3, hU3⟩
 generalize (w1.alloc (.cells #[.int .i64 0, .slice none 0 0, .slice none 0 0, .slice none 0 0, .int .i64 0] 26)).setRow w1.heap.size AA = w2 at *
 have hqe := (HX.out.2.2.1.upd hU3 (fun h => h) (fun _ _ h => h)).err
 have HY := Lib.hid (And.intro hv3 (HX.out.2.2.2.1.trans hU3))
 have hrow3 := (hU3.block _ (lt_of_heap hrow2) (fun h => h)).trans hrow2
 have HU3 := Lib.hid hU3
 clear hv3 hf3 hU3 hpk hzr hrow2
 obtain ⟨RT, hRT⟩ : ∃ B, B = w1.heap.size := ⟨_, rfl⟩
 rw [← hRT] at hrow3 hbr ⊢
 have HRTB := Lib.hid hRT
 clear hRT
 have qp : w3.drew.cell? ⟨RT, 0, none⟩ = some (.int .i64 r.p) := (cell_of_row w3 RT 0 _ _ _ hrow3).trans HA.out.2.2.2.2.1
 have qk : w3.drew.cell? ⟨RT, 1, none⟩ = some (.slice r.ca r.ks.length r.cc) := (cell_of_row w3 RT 1 _ _ _ hrow3).trans HA.out.2.2.2.2.2
 have qa : w3.drew.cell? ⟨rb, 1, none⟩ = some (.int .i64 g.at_) := (HG.out.1.other (HY.out.2.trans (Upd.drew _ _))).c1
 have qr : w3.drew.cell? ⟨rb, 0, none⟩ = some (.slice A.ra g.rr.length A.rc) := (HG.out.1.other (HY.out.2.trans (Upd.drew _ _))).c0
 have HP1 := hPC
 generalize hp : r.p = p at *
 generalize hca : r.ca = ca at *
 generalize hcc : r.cc = cc at *
 generalize hkk : r.ks = ks at *
 have HPK := Lib.hid (And.intro hp (And.intro hca (And.intro hcc hkk)))
 obtain ⟨at0, hat0⟩ : ∃ x, x = g.at_ := ⟨_, rfl⟩
 rw [← hat0] at qa
 have HAT := Lib.hid hat0
 clear hp hca hcc hkk hPC hat0
 generalize hSE : s2.e = SE at *
 have HSE := Lib.hid hSE
 clear hSE
 go_upto_region 4 with (fail)
 by_cases he : SE = 0
 case neg =>
  have hbe : (SE != 0) = true := by simp [he]
  have HF : Hid (OK = false) := Lib.hid (by
   cases hO : OK with
   | false => rfl
   | true => exact absurd (HOK.out.2 hO) he)
  obtain ⟨rfl, rfl⟩ := HN0.out HF.out
  clear he
  refine wp_region_plan_last [] [0, 1, 2, 3, 4, 5, 6, 7, 8, 9, 10, 11, 12, 13, 14, 15, 16, 17, 18, 19, 20, 21, 22, 23] (fun w' => w'.cell? ⟨w.heap.size, 2, none⟩ = some (.int .i64 SE) ∧ w'.cell? ⟨RT, 0, none⟩ = some (.int .i64 p) ∧ w'.cell? ⟨rb, 1, none⟩ = some (.int .i64 at0)) (by kernel_rfl) (by kernel_rfl) ⟨hqe, qp, qa⟩ ?_
  iterate 24
   first | refine plan_lskip rfl rfl ?_ | (refine plan_last (v := ?_) rfl rfl (fun w' hS => ?_) ?_; rotate_left; · (go_simp; try with_reducible rfl))
   simp only [putL]
  refine plan_end ?_
  go_wp2_with fail
  go_ret
  exact RAdd.no HG.out.1 HG.out.2.1 (HY.out.2.trans (Upd.drew _ _))
 case pos =>
 have hbe : (SE != 0) = false := by simp [he]
 by_cases hB : rootBC cw = true
 case neg =>
  have hB0 : rootBC cw = false := by simpa using hB
  have HF : Hid (OK = false) := Lib.hid (by rw [HOK.out.1, hB0]; rfl)
  obtain rfl := HRE.out.2 hB0
  obtain ⟨rfl, rfl⟩ := HN0.out HF.out
  clear hB hB0
  refine wp_region_plan_last [] [0, 1, 2, 3, 4, 5, 6, 7, 8, 9, 10, 11, 12, 13, 14, 15, 16, 17, 18, 19, 20, 21, 22, 23] (fun w' => w'.cell? ⟨w.heap.size, 2, none⟩ = some (.int .i64 SE) ∧ w'.cell? ⟨RT, 0, none⟩ = some (.int .i64 p) ∧ w'.cell? ⟨rb, 1, none⟩ = some (.int .i64 at0)) (by kernel_rfl) (by kernel_rfl) ⟨hqe, qp, qa⟩ ?_
  iterate 24
   first | refine plan_lskip rfl rfl ?_ | (refine plan_last (v := ?_) rfl rfl (fun w' hS => ?_) ?_; rotate_left; · (go_simp; try with_reducible rfl))
   simp only [putL]
  refine plan_end ?_
  go_wp2_with fail
  go_ret
  exact RAdd.no HG.out.1 HG.out.2.1 (HY.out.2.trans (Upd.drew _ _))
 case pos =>
 obtain ⟨rfl, rfl⟩ := HRE.out.1 hB
 have hO1 : OK = (rootGC cw == l) := by rw [HOK.out.1, hB, Bool.true_and]
 have hbs := sBytes_any a3 a c3 c (rootGC cw) l w3.drew (HY.out.1.upd (Upd.drew _ _) (fun _ _ h => h)) (HG.out.2.2.1.upd (HY.out.2.trans (Upd.drew _ _)) (fun _ _ h => h))
 rw [← hO1] at hbs
 clear hB hO1
 refine wp_region_plan_last [([0, 1, 2, 3, 4, 5, 6, 7, 8, 9, 10, 11], 12)] [13, 14, 15, 16, 17, 18, 19, 20, 21, 22, 23] (fun w' => w'.cell? ⟨w.heap.size, 2, none⟩ = some (.int .i64 SE) ∧ w'.cell? ⟨RT, 0, none⟩ = some (.int .i64 p) ∧ w'.cell? ⟨rb, 1, none⟩ = some (.int .i64 at0)) (by kernel_rfl) (by kernel_rfl) ⟨hqe, qp, qa⟩ ?_
 iterate 12
  first | refine plan_skip rfl rfl ?_ | (refine plan_take (v := ?_) rfl rfl (fun w' hS => ?_) ?_; rotate_left; · (go_simp; try with_reducible rfl))
  simp only [putL]
 refine plan_act rfl (fun KK hKK => ?_)
 go_wp2_with fail
 refine hbs.mono ?_
 rintro e w4 ⟨rfl, rfl⟩
 clear hbs
 go_wp2_with fail
 refine hKK.out _ _ (.inr ⟨hqe, qp, qa⟩) ?_
 cases OK with
 | false =>
  obtain ⟨rfl, rfl⟩ := HN0.out rfl
  iterate 11
   first | refine plan_lskip rfl rfl ?_ | (refine plan_last (v := ?_) rfl rfl (fun w' hS => ?_) ?_; rotate_left; · (go_simp; try with_reducible rfl))
   simp only [putL]
  refine plan_end ?_
  go_wp2_with fail
  go_ret
  exact RAdd.no HG.out.1 HG.out.2.1 (HY.out.2.trans (Upd.drew _ _))
 | true =>
 have HR1 := Lib.hid ((HN1.out rfl).trans HRT.out)
 clear HN1 HRT
 by_cases hpa : p = at0
 case neg =>
  have hbp : (p != at0) = true := by simp [hpa]
  have HF : Hid (E0 = 5 ∧ m0 = m) := Lib.hid (by
   have := HR1.out
   rw [if_pos (by rw [← HP1.out.1, ← HAT.out]; exact hpa)] at this
   exact ⟨congrArg Prod.fst this, congrArg Prod.snd this⟩)
  obtain ⟨rfl, rfl⟩ := HF.out
  clear hpa HR1
  iterate 11
   first | refine plan_lskip rfl rfl ?_ | (refine plan_last (v := ?_) rfl rfl (fun w' hS => ?_) ?_; rotate_left; · (go_simp; try with_reducible rfl))
   simp only [putL]
  refine plan_end ?_
  go_wp2_with fail
  go_ret
  exact RAdd.no HG.out.1 HG.out.2.1 (HY.out.2.trans (Upd.drew _ _))
 case pos =>
 have hbp : (p != at0) = false := by simp [hpa]
 have HR2 : Hid ((E0, m0) = if 2000 ≤ g.rr.length ∨ 2000 < (g.rr.flatMap (·.ks)).length + cw.ks.length then (6, m) else (0, ⟨m.rr ++ [cw], m.fs ++ [(m.cs.length : Int)], m.cs ++ cw.ks, (m.rr.length : Int) + 1, [], false, wc0, m.n + 1⟩)) := Lib.hid (by rw [HR1.out, if_neg (by rw [← HP1.out.1, ← HAT.out]; simp [hpa])])
 clear HR1 hpa
 iterate 11
  first | refine plan_lskip rfl rfl ?_ | (refine plan_last (v := ?_) rfl rfl (fun w' hS => ?_) ?_; rotate_left; · (go_simp; try with_reducible rfl))
  simp only [putL]
 refine plan_end ?_
 clear hbp hqe qp qa
 have hw4 : Upd (fun _ => False) w w3.drew := HY.out.2.trans (Upd.drew _ _)
 have hrow4 : w3.drew.heap[RT]? = some (.cells AA 26) := hrow3
 have HW4 := Lib.hid (And.intro hw4 hrow4)
 have HU34 : Hid (Upd (fun _ => False) w2 w3.drew) := Lib.hid (HU3.out.trans (Upd.drew _ _))
 clear hw4 hrow4 hrow3 HY HU3
 obtain ⟨rl, hrl'⟩ : ∃ x, x = g.rr.length := ⟨_, rfl⟩
 obtain ⟨ra, hra⟩ : ∃ x, x = A.ra := ⟨_, rfl⟩
 obtain ⟨rc, hrc⟩ : ∃ x, x = A.rc := ⟨_, rfl⟩
 rw [← hrl', ← hra, ← hrc] at qr
 have HRL := Lib.hid (And.intro hrl' (And.intro hra hrc))
 clear hrl' hra hrc
 generalize w3.drew = w4 at *
 go_upto_region 6 with (fail)
 clear hbe
 by_cases hl1 : 2000 ≤ rl
 case pos =>
  have hI1 : decide ((2000 : Int) ≤ (rl : Int)) = true := by rw [decide_eq_true_iff]; omega
  have HF : Hid (E0 = 6 ∧ m0 = m) := Lib.hid (by
   have := HR2.out
   rw [if_pos (.inl (by rw [← HRL.out.1]; exact hl1))] at this
   exact ⟨congrArg Prod.fst this, congrArg Prod.snd this⟩)
  obtain ⟨rfl, rfl⟩ := HF.out
  clear hl1 HR2
  refine wp_region_plan_last [] [0, 1, 2, 3, 4, 5, 6, 7, 8, 9, 10, 11, 12, 13, 14, 15] (fun w' => w'.cell? ⟨rb, 0, none⟩ = some (.slice ra rl rc) ∧ w'.cell? ⟨RT, 1, none⟩ = some (.slice ca ks.length cc)) (by kernel_rfl) (by kernel_rfl) ⟨qr, qk⟩ ?_
  iterate 16
   first | refine plan_lskip rfl rfl ?_ | (refine plan_last (v := ?_) rfl rfl (fun w' hS => ?_) ?_; rotate_left; · (go_simp; try with_reducible rfl))
   simp only [putL]
  refine plan_end ?_
  go_wp2_with fail
  go_ret
  refine ⟨rfl, g, A, HG.out.2.1, rfl, HG.out.1.other (HW4.out.1.trans (Upd.drew _ _)), (HW4.out.1.trans (Upd.drew _ _)).mono (fun _ _ h => h.elim), fun q hq => .inl hq⟩
 case neg =>
 have hI1 : decide ((2000 : Int) ≤ (rl : Int)) = false := by rw [decide_eq_false_iff_not]; omega
 have hrc := rCommits_any g A rb lb w4.drew (HG.out.1.other (HW4.out.1.trans (Upd.drew _ _))) (by have := HRB.out.2.1; omega)
 have hkl : ks.length ≤ 100000001 := by rw [HP1.out.2]; exact HKL.out
 have hfl : (g.rr.flatMap (·.ks)).length ≤ 2000 := HRB.out.2.1
 have HR3 : Hid ((E0, m0) = if 2000 < (g.rr.flatMap (·.ks)).length + ks.length then (6, m) else (0, ⟨m.rr ++ [cw], m.fs ++ [(m.cs.length : Int)], m.cs ++ cw.ks, (m.rr.length : Int) + 1, [], false, wc0, m.n + 1⟩)) := Lib.hid (by
  rw [HR2.out, HP1.out.2]
  by_cases hx : 2000 < (g.rr.flatMap (·.ks)).length + cw.ks.length
  ·rw [if_pos (.inr hx), if_pos hx]
  ·rw [if_neg (by rw [← HRL.out.1]; omega), if_neg hx])
 generalize g.rr.flatMap (·.ks) = KS at *
 have hI3 : IntKind.i64.wrap ((KS.length : Int) + (ks.length : Int)) = (KS.length : Int) + (ks.length : Int) := IntWalk.i64_in _ (by omega)
 clear HR2
 refine wp_region_plan_last [([0, 1, 2, 3, 4, 5, 6, 7, 10, 11, 12], 8)] [9, 13, 14, 15] (fun w' => w'.cell? ⟨rb, 0, none⟩ = some (.slice ra rl rc) ∧ w'.cell? ⟨RT, 1, none⟩ = some (.slice ca ks.length cc)) (by kernel_rfl) (by kernel_rfl) ⟨qr, qk⟩ ?_
 iterate 11
  first | refine plan_skip rfl rfl ?_ | (refine plan_take (v := ?_) rfl rfl (fun w' hS => ?_) ?_; rotate_left; · (go_simp; try with_reducible rfl))
  simp only [putL]
 refine plan_act rfl (fun KK hKK => ?_)
 go_wp2_with fail
 refine Calls.mono hrc ?_
 unfold KeysV
 rintro e w5 ⟨ak, ck, rfl, hvk, hU5⟩
 have qr5 := (hU5.cell (World.block_lt_of_cell? w4.drew _ qr) (fun h => h)).trans qr
 have qk5 := (hU5.cell (World.block_lt_of_cell? w4.drew _ qk) (fun h => h)).trans qk
 have HU5 : Hid (Upd (fun _ => False) w4 w5) := Lib.hid ((Upd.drew _ _).trans hU5)
 clear hrc hvk hU5 qr qk
 go_wp2_with fail
 refine hKK.out _ _ (.inr ⟨qr5, qk5⟩) ?_
 by_cases hl2 : 2000 < KS.length + ks.length
 case pos =>
  have hI2 : decide ((2000 : Int) < (KS.length : Int) + (ks.length : Int)) = true := by rw [decide_eq_true_iff]; omega
  have HF : Hid (E0 = 6 ∧ m0 = m) := Lib.hid (by
   have := HR3.out
   rw [if_pos hl2] at this
   exact ⟨congrArg Prod.fst this, congrArg Prod.snd this⟩)
  obtain ⟨rfl, rfl⟩ := HF.out
  clear hl2 HR3
  iterate 4
   first | refine plan_lskip rfl rfl ?_ | (refine plan_last (v := ?_) rfl rfl (fun w' hS => ?_) ?_; rotate_left; · (go_simp; try with_reducible rfl))
   simp only [putL]
  refine plan_end ?_
  go_wp2_with fail
  go_ret
  refine ⟨rfl, g, A, HG.out.2.1, rfl, HG.out.1.other (HW4.out.1.trans HU5.out), (HW4.out.1.trans HU5.out).mono (fun _ _ h => h.elim), fun q hq => .inl hq⟩
 case neg =>
 have hI2 : decide ((2000 : Int) < (KS.length : Int) + (ks.length : Int)) = false := by rw [decide_eq_false_iff_not]; omega
 have HF : Hid (E0 = 0 ∧ m0 = ⟨m.rr ++ [cw], m.fs ++ [(m.cs.length : Int)], m.cs ++ cw.ks, (m.rr.length : Int) + 1, [], false, wc0, m.n + 1⟩) := Lib.hid (by
  have := HR3.out
  rw [if_neg hl2] at this
  exact ⟨congrArg Prod.fst this, congrArg Prod.snd this⟩)
 obtain ⟨rfl, rfl⟩ := HF.out
 clear hl2 HR3
 iterate 4
  first | refine plan_lskip rfl rfl ?_ | (refine plan_last (v := ?_) rfl rfl (fun w' hS => ?_) ?_; rotate_left; · (go_simp; try with_reducible rfl))
  simp only [putL]
 refine plan_end ?_
 clear qk5 hI2 hI3
 have hrow5 := (HU5.out.block _ (lt_of_heap HW4.out.2) (fun h => h)).trans HW4.out.2
 have hRX := (HG.out.1.other (HW4.out.1.trans HU5.out)).other (Upd.drew (fun _ => False) w5)
 have HRX := Lib.hid hRX
 have HR6 : Hid (RtIn w5.drew r0 ∧ RtBl (fun q => Cd w5.drew rb lb q ∧ blk A.ra ≠ some q) r0) := Lib.hid (by
  have hU25 := (HU34.out.trans HU5.out).trans (Upd.drew _ _)
  rw [HR0.out]
  refine ⟨HX.out.1.upd hU25, HX.out.2.1.mono (fun q hq => ?_)⟩
  have h1 := hq.1
  have h2 := hq.2
  have h3 := HG.out.1.lt
  have h4 := HG.out.1.ll
  have h5 := hU25.size
  have h6 := HX.out.2.2.2.2.2
  exact ⟨⟨by omega, by omega, by omega⟩, fun e => by have := (HG.out.1.n1 q e).2.2; omega⟩)
 have hqb : w5.drew.cell? ⟨rb, 0, none⟩ = some (.slice ra rl rc) := qr5
 have hqr : w5.drew.heap[RT]? = some (.cells AA 26) := hrow5
 have HQR := Lib.hid (And.intro hqb hqr)
 clear hRX hrow5 qr5 hqb hqr
 go_upto_region 8 with (fail)
 refine wp_region_plan_last [([0, 1, 2, 3, 4, 5], 6), ([], 7), ([8, 9], 10)] [] (fun w' => w'.cell? ⟨rb, 0, none⟩ = some (.slice ra rl rc) ∧ w'.heap[RT]? = some (.cells AA 26 (0, 0))) (by kernel_rfl) (by kernel_rfl) HQR.out ?_
 have HUW5 : Hid (Upd (fun _ => False) w w5.drew) := Lib.hid ((HW4.out.1.trans HU5.out).trans (Upd.drew _ _))
 generalize w5.drew = w6 at *
 iterate 5
  first | refine plan_skip rfl rfl ?_ | (refine plan_take (v := ?_) rfl rfl (fun w' hS => ?_) ?_; rotate_left; · (go_simp; try with_reducible rfl))
  simp only [putL]
 refine plan_take (v := .agg AA) rfl rfl (fun w' hS => exec_load_row 26 (.tmp 6) rfl RT AA 26 (0, 0) _ rfl hS.2 Tryz.underlying26 rfl HA.out.1) ?_
 simp only [putL]
 refine plan_act rfl (fun KA hKA => ?_)
 obtain ⟨i0, hi, hz0, hz1, hz2⟩ := info_parts4 infoRootZ
 refine wpList_slice_gen rfl 67 26 5 (.tmp 64) rfl Tryz.underlying67 i0 (.agg (rootA 0 none 0 0 0)) hi hz0 hz1 (by decide) (by decide) (.agg AA) AA rfl HA.out.2.2.2.1 ?_
 have hUb := Upd.alloc (fun _ => False) w6 (.cells AA 26)
 have hsrc := row_src (X := AA) Tryz.underlying67 HA.out.2.1 HA.out.2.2.1 (heap_alloc_new w6 (.cells AA 26))
 have hown := ownsRow_upd HRX.out.rr hUb (fun _ _ h => h)
 rw [← HRL.out.1, ← HRL.out.2.1, ← HRL.out.2.2] at hown
 have hq7 := And.intro ((hUb.cell (World.block_lt_of_cell? w6 _ HQR.out.1) (fun h => h)).trans HQR.out.1) ((hUb.block _ (lt_of_heap HQR.out.2) (fun h => h)).trans HQR.out.2)
 have hrl2 : rl < 2000 := by omega
 go_wp2_with fail
 refine hKA.out _ _ (.inr hq7) ?_
 refine plan_act rfl (fun KB hKB => ?_)
 try simp only [putL]
 refine wpList_app _ rfl (.tmp 63) (.tmp 65) 67 67 rfl 26 i0 (.agg (rootA 0 none 0 0 0)) 5 88 Tryz.underlying67 hi hz0 hz1 hz2 rfl ra rl rc (g.rr.flatMap rtV) rfl hown (.slice (some ⟨w6.heap.size, 0, none⟩) 1 1) 1 AA.toList rfl hsrc ?_ ?_ ?_
 ·unfold maxLen; omega
 ·omega
 clear hi hz0 hz1 hz2 i0
 intro a8 c8 w8 hown8 hg8 hat8 hnil8
 rw [HRV.out] at hown8
 rw [HRL.out.1] at hown8
 rw [HRL.out.2.1] at hg8 hat8
 have hadd := HRX.out.addR r0 HR6.out.1 HR6.out.2 _ hown8 hg8 hat8
 rw [HRL.out.1, HRL.out.2.1, HRL.out.2.2] at HQR
 obtain ⟨hR8, hU8, hf8, hc8, hfz8⟩ := hadd
 have hr8 : w8.heap[RT]? = some (.cells AA 26) := by
  have hUg := Upd.grown (S := fun k => blk A.ra = some k) hg8 (fun k hk => hk)
  have h1 := (hUb.block _ (lt_of_heap HQR.out.2) (fun h => h)).trans HQR.out.2
  refine (hUg.block _ (lt_of_heap h1) (fun e => ?_)).trans h1
  have h2 := (HG.out.1.n1 _ e).2.2
  have h3 := HRTB.out
  omega
 rw [← HRL.out.1, ← HRL.out.2.1, ← HRL.out.2.2] at hc8
 have HM := Lib.hid (And.intro hR8 (And.intro hU8 hf8))
 clear hR8 hU8 hf8 hown8 hg8 hat8 hnil8 hsrc hUb hown hq7
 go_wp2_with fail
 refine hKB.out _ _ (.inr ⟨hc8, hr8⟩) ?_
 iterate 2
  first | refine plan_skip rfl rfl ?_ | (refine plan_take (v := ?_) rfl rfl (fun w' hS => ?_) ?_; rotate_left; · (go_simp; try with_reducible rfl))
  simp only [putL]
 refine plan_act rfl (fun KC hKC => ?_)
 go_wp2_with fail
 refine hKC.out _ _ (.inl rfl) ?_
 refine plan_end ?_
 rw [← HRL.out.1] at HM
 clear hc8 hfz8 hr8
 generalize w8.setCell ⟨rb, 0, none⟩ (.slice a8 (rl + 1) c8) = w9 at *
 have q0 := HM.out.1.c0
 have q1 := HM.out.1.c1
 have q2 := HM.out.1.c2
 have f1 := HM.out.1.free 1
 have hl9 : (g.rr ++ [r0]).length = rl + 1 := by rw [HRL.out.1]; simp
 dsimp only at q0 q1 q2
 rw [hl9] at q0
 have hput := HM.out.1.putI (g' := ⟨g.rr ++ [r0], (rl : Int), g.ds, g.pd, g.n⟩) 1 (.int .i64 (rl : Int)) (by simp [refA]) rfl rfl rfl
 have HP := Lib.hid hput
 have hput2 := HP.out.1.putD none 0 [] (Vw.nl _ _) (fun q e => by cases e)
 have f2 := HP.out.1.free 2
 have q22 := HP.out.1.c2
 dsimp only at q22
 have HQ := Lib.hid hput2
 have hput3 := HQ.out.1.putP wt0 (wt0_in _) (wt0_bl _)
 rw [← pendA_wt0] at hput3
 have hth := HQ.out.1.there
 have HZ := Lib.hid hput3
 have hI9 : IntKind.i64.wrap (((rl + 1 : Nat) : Int) - 1) = (rl : Int) := by rw [IntWalk.i64_in _ (by omega)]; omega
 clear hput hput2 hput3 hl9
 rw [List.length_nil] at HZ hth
 go_wp2_with first
  | refine wpList_store_mid rfl 30 (.tmp 84) (.tmp 78) rfl rb 3 pendA rfl rfl hth (by rw [infoPd7]; rfl) (by simp [pendA, Value.oneCell']) ?_
 go_ret
 refine ⟨rfl, ⟨g.rr ++ [r0], (rl : Int), [], wt0, g.n⟩, ⟨a8, c8, none, 0⟩, ⟨?_, ?_, rfl, rfl, rfl⟩, rfl, HZ.out.1, ?_, fun q hq => ?_⟩
 ·rw [List.map_append, ← HG.out.2.1.rr, HR0.out]
  show m.rr ++ [cw] = m.rr ++ [rtC r]
  rw [HX.out.2.2.2.2.1]
 ·show (m.rr.length : Int) + 1 = (rl : Int) + 1
  rw [HRB.out.2.2, HRL.out.1]
 ·exact ((HUW5.out.mono (fun _ _ h => h.elim)).trans HM.out.2.1).trans ((HP.out.2.trans (HQ.out.2.trans HZ.out.2)).mono (fun _ _ h => .inl h))
 ·rcases HM.out.2.2 q hq with h | h
  ·exact .inl h
  ·exact .inr (Nat.le_trans HUW5.out.size h)
end Go.Proofs.YtccejkikphpnfaaGreatDoor
