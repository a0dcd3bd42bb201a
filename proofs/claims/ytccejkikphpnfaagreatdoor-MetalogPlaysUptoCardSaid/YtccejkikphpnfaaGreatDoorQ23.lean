
/- writer.numbers, writer.files. -/
import Derived.Test.YtccejkikphpnfaaGreatDoorQ22
namespace Go.Proofs.YtccejkikphpnfaaGreatDoor
set_option linter.unusedSimpArgs false
set_option linter.unusedVariables false
set_option maxRecDepth 100000
open Go.ChangeShapes Go.WideShapes Go.ChangeAt Go.RowKit
theorem LogX.setT [Inhabited RbT] {w : World} {lb : Nat} {g : Lx} {A : LA} (h : LogX w lb g A) (m : Int) : LogX (w.setCell ⟨lb, 3, none⟩ (.int .i64 m)) lb ⟨g.rr, g.fs, g.cs, m, g.ds, g.pd, g.n⟩ A ∧ Upd (fun q => q = lb) w (w.setCell ⟨lb, 3, none⟩ (.int .i64 m)) :=
 h.put (g' := ⟨g.rr, g.fs, g.cs, m, g.ds, g.pd, g.n⟩) (A' := A) (Upd.refl _ _) 3 (.int .i64 m) (by simp [logX]) h.rr h.fs h.cs h.ds h.n1 h.n2 h.n3 h.n4 (fun x hx => .inl hx) rfl
theorem rt_get (rr : List Rt) (i : Nat) (x : Rt) (h : rr[i]? = some x) : (rr.flatMap rtV)[i * 5 + 0]? = some (.int .i64 x.p) := by
 rw [flatMap_get rtV 5 rtV_len rr i 0 (by decide), h]; rfl
/-- What move answers. -/
def moveE (g : Lx) (t : Int) (redo : Bool) : Int := if g.pd.on = true then 5 else if redo = true then (if g.ds.getLast? = some t then 0 else 5) else (if g.top ≠ 0 ∧ g.rr[(g.top - 1).toNat]?.map (·.p) = some t then 0 else 5)
def moveG (g : Lx) (t : Int) (redo : Bool) : Lx := if moveE g t redo = 0 then (if redo = true then ⟨g.rr, g.fs, g.cs, t + 1, g.ds.dropLast, g.pd, g.n⟩ else ⟨g.rr, g.fs, g.cs, t + 1, g.ds ++ [g.top - 1], g.pd, g.n⟩) else g
def Moved [Inhabited RbT] (w : World) (lb : Nat) (g : Lx) (t : Int) (redo : Bool) (e : Ending) (w' : World) : Prop :=
 e = .returned (.int .i64 (moveE g t redo)) ∧ ∃ A', LogX w' lb (moveG g t redo) A' ∧ Upd (fun q => q = lb) w w'
theorem Moved.no [Inhabited RbT] {w w' : World} {lb : Nat} {g : Lx} {A : LA} {t : Int} {redo : Bool} (h : LogX w lb g A) (hE : moveE g t redo = 5) (hU : Upd (fun _ => False) w w') : Moved w lb g t redo (.returned (.int .i64 5)) w' := by
 refine ⟨by rw [hE], A, ?_, hU.mono (fun _ _ h => h.elim)⟩
 unfold moveG
 rw [hE, if_neg (by decide)]
 exact h.other hU
theorem Moved.yes [Inhabited RbT] {w w' : World} {lb : Nat} {g g' : Lx} {A : LA} {t : Int} {redo : Bool} (hE : moveE g t redo = 0) (hg : g' = (if redo = true then ⟨g.rr, g.fs, g.cs, t + 1, g.ds.dropLast, g.pd, g.n⟩ else ⟨g.rr, g.fs, g.cs, t + 1, g.ds ++ [g.top - 1], g.pd, g.n⟩)) (h : LogX w' lb g' A) (hU : Upd (fun q => q = lb) w w') : Moved w lb g t redo (.returned (.int .i64 0)) w' := by
 refine ⟨by rw [hE], A, ?_, hU⟩
 unfold moveG
 rw [if_pos hE, ← hg]
 exact h
set_option maxHeartbeats 8000000 in
theorem move_on [Inhabited RbT] (g : Lx) (A : LA) (lb : Nat) (t : Int) (redo : Bool) (w : World) (h : LogX w lb g A) (hon : g.pd.on = true) (hd : g.ds.length ≤ 100000) :
  Calls Tryz.prog 101 #[.pointer (some ⟨lb, 0, none⟩), .int .i64 t, .bool redo] w (Moved w lb g t redo) := by
 have HE := Lib.hid (Moved.no (t := t) (redo := redo) h (by unfold moveE; rw [if_pos hon]) (Upd.refl _ _))
 have q4 := h.c4
 have q5 := h.c5
 rw [hon] at q5
 have hcap := h.ds.cap
 have hlc := h.ds.le
 unfold maxLen at hcap
 generalize g.ds.length = dl at *
 clear h hon
 go_enter Tryz.func101, Tryz.ntmps101
 go_wp2_with fail
 go_ret
 exact HE.out
set_option maxHeartbeats 8000000 in
theorem move_redoX [Inhabited RbT] (g : Lx) (A : LA) (lb : Nat) (t : Int) (w : World) (h : LogX w lb g A) (hon : g.pd.on = false) (hv0 : -1 ≤ t) (hv1 : t < 4294967296) (hd : g.ds.length ≤ 100000) :
  Calls Tryz.prog 101 #[.pointer (some ⟨lb, 0, none⟩), .int .i64 t, .bool true] w (Moved w lb g t true) := by
 have hE0 : g.ds.getLast? = some t → moveE g t true = 0 := fun e => by unfold moveE; rw [if_neg (by simp [hon]), if_pos rfl, if_pos e]
 have hE5 : g.ds.getLast? ≠ some t → moveE g t true = 5 := fun e => by unfold moveE; rw [if_neg (by simp [hon]), if_pos rfl, if_neg e]
 rcases List.eq_nil_or_concat g.ds with hds | ⟨D, v, hds⟩
 ·have HE := Lib.hid (Moved.no h (hE5 (by rw [hds]; simp)) (Upd.refl _ _))
  have q4 := h.c4
  have q5 := h.c5
  rw [hon] at q5
  rw [hds] at q4
  dsimp only [List.length_nil] at q4
  clear h hon hE0 hE5 hds hd
  go_enter Tryz.func101, Tryz.ntmps101
  go_wp2_with fail
  go_ret
  exact HE.out
 have hll : g.ds.length = D.length + 1 := by rw [hds]; simp
 have hlast : g.ds.getLast? = some v := by rw [hds]; simp
 obtain ⟨b, o, hb, hcell⟩ := h.ds.at (by omega) (by decide)
 have hq := hcell D.length (.int .i64 v) (by rw [hds]; simp [iv])
 have hdw : IntKind.i64.wrap ((g.ds.length : Int) - 1) = (D.length : Int) := by rw [hll]; exact (IntWalk.i64_in _ (by omega)).trans (by omega)
 have hvw : IntKind.i64.wrap (t + 1) = t + 1 := IntWalk.i64_in _ (by omega)
 have hI0 : ((g.ds.length : Int) == 0) = false := by rw [hll]; simp; omega
 have hI2 : (D.length : Int) < (g.ds.length : Int) := by rw [hll]; omega
 have hcapr := h.ds.cap
 have hlr := h.ds.le
 unfold maxLen at hcapr
 have hI3 : (D.length : Int) ≤ (A.dc : Int) := by omega
 have q4 := h.c4
 have q5 := h.c5
 rw [hon] at q5
 rw [hb] at q4
 by_cases hv : v = t
 case neg =>
  have HE := Lib.hid (Moved.no h (hE5 (by rw [hlast]; simpa using hv)) (Upd.refl _ _))
  have hbe : (v != t) = true := by simp [hv]
  generalize g.ds.length = nn at *
  generalize A.dc = dc at *
  clear h hon hE0 hE5 hds hd hcell hv hlast hll hb
  go_enter Tryz.func101, Tryz.ntmps101
  go_wp2_with fail
  go_ret
  exact HE.out
 subst hv
 have hbe : (v != v) = false := by simp
 have HE0 := Lib.hid (hE0 hlast)
 have HG : Hid ((⟨g.rr, g.fs, g.cs, v + 1, D, g.pd, g.n⟩ : Lx) = (if true = true then ⟨g.rr, g.fs, g.cs, v + 1, g.ds.dropLast, g.pd, g.n⟩ else ⟨g.rr, g.fs, g.cs, v + 1, g.ds ++ [g.top - 1], g.pd, g.n⟩)) := Lib.hid (by rw [if_pos rfl, hds]; simp)
 have hpre := h.ds.pre D.length (by omega)
 have hpx : (g.ds.map iv).take (D.length * 1) = D.map iv := by rw [hds]; simp
 rw [hpx, hb] at hpre
 have hnb : ∀ q, blk (some (⟨b, o, none⟩ : Addr)) = some q → Bd w lb q := fun q hq => h.n4 q (by rw [hb]; exact hq)
 have HPRE := Lib.hid (And.intro hpre hnb)
 have HI := Lib.hid h
 obtain ⟨ra, rc, fa, fc, ka, kc, da, dc⟩ := A
 try dsimp only at *
 subst hb
 have f4 := h.free 4
 have f3 := h.free 3
 have q3 := h.c3
 try dsimp only at q3
 have hlt := h.lt
 generalize hnn : g.ds.length = nn at *
 have HNN := Lib.hid hnn
 clear h hcell hpre hpx hnb hon hE0 hE5 hds hlast hll hnn
 go_enter Tryz.func101, Tryz.ntmps101
 go_upto_region 6 with (fail)
 refine wp_region_plan_last [] [0, 1, 2, 3, 4, 5, 6, 7, 8, 9, 10, 11, 12, 13, 14, 15, 16, 17, 18, 19, 20, 21, 22, 23, 24, 25] (fun w' => True) (by kernel_rfl) (by kernel_rfl) trivial ?_
 iterate 26
  first | refine plan_lskip rfl rfl ?_ | (refine plan_last (v := ?_) rfl rfl (fun w' hS => ?_) ?_; rotate_left; · (go_simp; try with_reducible rfl))
  simp only [putL]
 refine plan_end ?_
 have HId := Lib.hid HI.out.drew
 have HPD := Lib.hid (HPRE.out.1.upd (Upd.drew (fun _ => False) w) (fun _ _ h => h))
 have HUD := Lib.hid (Upd.drew (fun q => q = lb) w)
 clear HI q3 q4 q5 f3 f4
 go_upto_region 9 with (fail)
 have HNB : Hid (∀ q, blk (some (⟨b, o, none⟩ : Addr)) = some q → Bd w.drew lb q) := Lib.hid (fun q hq => HPRE.out.2 q hq)
 generalize w.drew = y at *
 have q4 := HId.out.c4
 have f4 := HId.out.free 4
 dsimp only at q4
 rw [HNN.out] at q4
 go_wp2_with fail
 refine (clipI_any (some ⟨b, o, none⟩) D.length dc 1 (D.map iv) _ HPD.out).mono ?_
 rintro e w' ⟨rfl, rfl⟩
 have hput := HId.out.put (g' := ⟨g.rr, g.fs, g.cs, g.top, D, g.pd, g.n⟩) (A' := ⟨ra, rc, fa, fc, ka, kc, some ⟨b, o, none⟩, D.length⟩) (Upd.refl _ _) 4 (.slice (some ⟨b, o, none⟩) D.length D.length) (by simp [logX]) HId.out.rr HId.out.fs HId.out.cs HPD.out.clip2 HId.out.n1 HId.out.n2 HId.out.n3 HNB.out (fun x hx => .inl hx) rfl
 have HP := Lib.hid (And.intro hput.1 (HUD.out.trans hput.2))
 clear hput
 go_upto_region 10 with (fail)
 generalize y.setCell ⟨lb, 4, none⟩ (.slice (some ⟨b, o, none⟩) D.length D.length) = y2 at *
 have hfin := HP.out.1.setT (v + 1)
 have HF := Lib.hid (And.intro hfin.1 (HP.out.2.trans hfin.2))
 have q3e := HP.out.1.c3
 have f3e := HP.out.1.free 3
 dsimp only at q3e
 clear hfin q4 f4
 go_wp2_with fail
 go_ret
 exact Moved.yes HE0.out HG.out HF.out.1 HF.out.2
set_option maxHeartbeats 8000000 in
theorem move_undoX [Inhabited RbT] (g : Lx) (A : LA) (lb : Nat) (t : Int) (w : World) (h : LogX w lb g A) (hon : g.pd.on = false) (ht0 : 0 ≤ g.top) (ht1 : g.top ≤ 2000) (htr : g.top ≤ g.rr.length) (hv0 : -1 ≤ t) (hv1 : t < 4294967296) (hd : g.ds.length ≤ 100000) :
  Calls Tryz.prog 101 #[.pointer (some ⟨lb, 0, none⟩), .int .i64 t, .bool false] w (Moved w lb g t false) := by
 have hE0 : g.top ≠ 0 ∧ g.rr[(g.top - 1).toNat]?.map (·.p) = some t → moveE g t false = 0 := fun e => by unfold moveE; rw [if_neg (by simp [hon]), if_neg (by simp), if_pos e]
 have hE5 : ¬ (g.top ≠ 0 ∧ g.rr[(g.top - 1).toNat]?.map (·.p) = some t) → moveE g t false = 5 := fun e => by unfold moveE; rw [if_neg (by simp [hon]), if_neg (by simp), if_neg e]
 obtain ⟨ra, rc, fa, fc, ka, kc, da, dc⟩ := A
 have HG : Hid ((⟨g.rr, g.fs, g.cs, t + 1, g.ds ++ [g.top - 1], g.pd, g.n⟩ : Lx) = (if false = true then ⟨g.rr, g.fs, g.cs, t + 1, g.ds.dropLast, g.pd, g.n⟩ else ⟨g.rr, g.fs, g.cs, t + 1, g.ds ++ [g.top - 1], g.pd, g.n⟩)) := Lib.hid (by simp)
 have q0 := h.c0
 have q3 := h.c3
 have q4 := h.c4
 have q5 := h.c5
 rw [hon] at q5
 have hcapd := h.ds.cap
 have hld := h.ds.le
 have hcapr := h.rr.cap
 have hlr := h.rr.le
 unfold maxLen at hcapr hcapd
 dsimp only at hcapr hlr hcapd hld
 by_cases hz : g.top = 0
 case pos =>
  have HE := Lib.hid (Moved.no (t := t) (redo := false) h (hE5 (by simp [hz])) (Upd.drew _ _))
  rw [hz] at q3
  dsimp only at q0 q3 q4 q5
  generalize g.ds.length = dl at *
  clear h hE0 hE5 hz ht0 ht1 htr q0
  go_enter Tryz.func101, Tryz.ntmps101
  go_upto_region 6 with (fail)
  refine wp_region_plan_last [] [0, 1, 2, 3, 4, 5, 6, 7, 8, 9, 10, 11, 12, 13, 14, 15, 16, 17, 18, 19, 20, 21, 22, 23, 24, 25] (fun w' => w'.cell? ⟨lb, 3, none⟩ = some (.int .i64 0)) (by kernel_rfl) (by kernel_rfl) q3 ?_
  iterate 26
   first | refine plan_lskip rfl rfl ?_ | (refine plan_last (v := ?_) rfl rfl (fun w' hS => ?_) ?_; rotate_left; · (go_simp; try with_reducible rfl))
   simp only [putL]
  refine plan_end ?_
  go_wp2_with fail
  go_ret
  exact HE.out
 obtain ⟨x, hx⟩ : ∃ x, g.rr[(g.top - 1).toNat]? = some x := ⟨_, List.getElem?_eq_getElem (by omega)⟩
 obtain ⟨b, o, hb, hcell⟩ := h.rr.at (by omega) (by decide)
 dsimp only at hb
 subst hb
 have hq := hcell ((g.top - 1).toNat * 5 + 0) _ (rt_get g.rr (g.top - 1).toNat x hx)
 have htn : (g.top - 1).toNat = g.top.toNat - 1 := by omega
 rw [Nat.add_zero, htn] at hq
 have htw : IntKind.i64.wrap (g.top - 1) = g.top - 1 := IntWalk.i64_in _ (by omega)
 have hI0 : (g.top == 0) = false := by simp; omega
 have hI1 : (0 : Int) ≤ g.top - 1 := by omega
 have hI1b : 1 ≤ g.top := by omega
 have hI2 : g.top - 1 < (g.rr.length : Int) := by omega
 by_cases hv : x.p = t
 case neg =>
  have HE := Lib.hid (Moved.no (t := t) (redo := false) h (hE5 (by rw [hx]; simp [hv])) (Upd.drew _ _))
  have hbe : (x.p != t) = true := by simp [hv]
  dsimp only at q0 q3 q4 q5
  generalize x.p = xp at *
  generalize g.ds.length = dl at *
  generalize g.rr.length = rl at *
  generalize g.top = top at *
  clear h hE0 hE5 hz ht0 hx hcell hv htn htr
  go_enter Tryz.func101, Tryz.ntmps101
  go_upto_region 6 with (fail)
  refine wp_region_plan_last [] [0, 1, 2, 3, 4, 5, 6, 7, 8, 9, 10, 11, 12, 13, 14, 15, 16, 17, 18, 19, 20, 21, 22, 23, 24, 25] (fun w' => w'.cell? ⟨lb, 3, none⟩ = some (.int .i64 top) ∧ w'.cell? ⟨lb, 0, none⟩ = some (.slice (some ⟨b, o, none⟩) rl rc) ∧ w'.cell? ⟨b, o + (top.toNat - 1) * 5, none⟩ = some (.int .i64 xp)) (by kernel_rfl) (by kernel_rfl) ⟨q3, q0, hq⟩ ?_
  iterate 26
   first | refine plan_lskip rfl rfl ?_ | (refine plan_last (v := ?_) rfl rfl (fun w' hS => ?_) ?_; rotate_left; · (go_simp; try with_reducible rfl))
   simp only [putL]
  refine plan_end ?_
  go_wp2_with fail
  go_ret
  exact HE.out
 have HE0 := Lib.hid (hE0 ⟨hz, by rw [hx]; simp [hv]⟩)
 rw [hv] at hq
 have hvw : IntKind.i64.wrap (t + 1) = t + 1 := IntWalk.i64_in _ (by omega)
 have hbe : (t != t) = false := by simp
 have HI := Lib.hid h
 obtain ⟨rr, fs, cs, top, ds, pd, n⟩ := g
 dsimp only at *
 clear h hcell hx hv htn hE0 hE5 hz
 go_enter Tryz.func101, Tryz.ntmps101
 go_upto_region 6 with (fail)
 refine wp_region_plan_last [] [0, 1, 2, 3, 4, 5, 6, 7, 8, 9, 10, 11, 12, 13, 14, 15, 16, 17, 18, 19, 20, 21, 22, 23, 24, 25] (fun w' => w'.cell? ⟨lb, 3, none⟩ = some (.int .i64 top) ∧ w'.cell? ⟨lb, 0, none⟩ = some (.slice (some ⟨b, o, none⟩) rr.length rc) ∧ w'.cell? ⟨b, o + (top.toNat - 1) * 5, none⟩ = some (.int .i64 t)) (by kernel_rfl) (by kernel_rfl) ⟨q3, q0, hq⟩ ?_
 iterate 26
  first | refine plan_lskip rfl rfl ?_ | (refine plan_last (v := ?_) rfl rfl (fun w' hS => ?_) ?_; rotate_left; · (go_simp; try with_reducible rfl))
  simp only [putL]
 refine plan_end ?_
 have HL := Lib.hid (And.intro HI.out.drew (Upd.refl (fun q => q = lb) w.drew))
 have HW := Lib.hid (Upd.drew (fun q => q = lb) w)
 clear HI q0 q3 q4 q5 hq hI0 hI1 hI2 hbe hI1b
 generalize hra : (some ⟨b, o, none⟩ : Option Addr) = ra at *
 clear hra
 go_upto_region 2 with (fail)
 generalize w.drew = yb at *
 ·
  have HD := Lib.hid HL.out.1.drew
  have hq := (show yb.drew.cell? ⟨lb, 4, none⟩ = some (.slice da ds.length dc) ∧ yb.drew.cell? ⟨lb, 3, none⟩ = some (.int .i64 top) from ⟨HD.out.c4, HD.out.c3⟩)
  have hv0 := HD.out.ds
  dsimp only at hv0
  obtain ⟨i0, hi, hz0, hz1, hz2⟩ := info_parts4 infoIntZ
  have HIX := Lib.hid (And.intro hi (And.intro hz0 (And.intro hz1 hz2)))
  clear hi hz0 hz1 hz2
  refine wp_region_fork_last [0, 1, 2, 3, 4, 6, 7, 8, 9, 10] 5 11 ([([], 11), ([], 12), ([13, 14], 15)], []) ([([], 5), ([], 12), ([13, 14], 15)], []) (fun w' => w'.cell? ⟨lb, 4, none⟩ = some (.slice da ds.length dc) ∧ w'.cell? ⟨lb, 3, none⟩ = some (.int .i64 top)) (by kernel_rfl) (by kernel_rfl) hq ?_
  iterate 10
   first | refine fork_lskip rfl rfl ?_ | (refine fork_last (v := ?_) rfl rfl (fun w' hS => ?_) ?_; rotate_left; · (go_simp; try with_reducible rfl))
   simp only [putL]
  have hUb := Upd.alloc (fun _ => False) yb.drew (.cells #[.int .i64 (top - 1)] 3)
  have HDb := Lib.hid (HD.out.other hUb)
  have HUB := Lib.hid ((Upd.drew (fun _ => False) yb).trans hUb)
  have hqb := (show (yb.drew.alloc (.cells #[.int .i64 (top - 1)] 3)).cell? ⟨lb, 4, none⟩ = some (.slice da ds.length dc) ∧ (yb.drew.alloc (.cells #[.int .i64 (top - 1)] 3)).cell? ⟨lb, 3, none⟩ = some (.int .i64 top) from ⟨HDb.out.c4, HDb.out.c3⟩)
  have hvb := HDb.out.ds
  dsimp only at hvb
  have hsrc : Src Tryz.prog 1 49 (.slice (some ⟨yb.drew.heap.size, 0, none⟩) 1 1) 1 ([iv (top - 1)]) (yb.drew.alloc (.cells #[.int .i64 (top - 1)] 3)) := int_src _ _
  clear hUb
  refine fork_both ?_ ?_
  ·refine plan_act rfl (fun K1 hK1 => ?_)
   go_wp2_with fail
   refine (clipI_any da ds.length dc 1 _ _ hv0).mono ?_
   rintro e w' ⟨rfl, rfl⟩
   go_wp2_with fail
   refine hK1.out _ _ (.inr hq) ?_
   refine plan_act rfl (fun K2 hK2 => ?_)
   go_wp2_with fail
   refine hK2.out _ _ (.inr hqb) ?_
   refine plan_act rfl (fun K3 hK3 => ?_)
   refine wpList_appV2 _ rfl (.tmp 18) (.tmp 24) 49 49 rfl 3 i0 (.int .i64 0) 1 8 Tryz.underlying49 HIX.out.1 HIX.out.2.1 HIX.out.2.2.1 HIX.out.2.2.2 rfl da ds.length (ds.map iv) rfl hvb.clip2 (.slice (some ⟨yb.drew.heap.size, 0, none⟩) 1 1) 1 ([iv (top - 1)]) rfl hsrc ?_ ?_ ?_
   ·unfold maxLen; omega
   ·omega
   intro a8 c8 w8 hv8 hU8 hf8
   have HD8 := Lib.hid (HDb.out.other hU8)
   have hq8 := (show w8.cell? ⟨lb, 4, none⟩ = some (.slice da ds.length dc) ∧ w8.cell? ⟨lb, 3, none⟩ = some (.int .i64 top) from ⟨HD8.out.c4, HD8.out.c3⟩)
   have hfr8 := HD8.out.free 4
   have hput := HDb.out.put (g' := ⟨rr, fs, cs, top, ds ++ [top - 1], pd, n⟩) (A' := ⟨ra, rc, fa, fc, ka, kc, a8, c8⟩) hU8 4 (.slice a8 (ds.length + 1) c8) (by simp [logX]) HD8.out.rr HD8.out.fs HD8.out.cs (by simpa [iv] using hv8) HD8.out.n1 HD8.out.n2 HD8.out.n3 (fun q hq => (hf8 q hq).elim (fun e => (HDb.out.n4 q e).up hU8.size) (fun e => HDb.out.fresh e.1 e.2)) (fun x hx => .inl hx) rfl
   have HP := Lib.hid (And.intro hput.1 (HL.out.2.trans ((HUB.out.mono (fun _ _ h => h.elim)).trans hput.2)))
   clear hput hv8 hU8 hf8
   go_wp2_with fail
   refine hK3.out _ _ (.inr hq8) ?_
   iterate 2
    first | refine plan_skip rfl rfl ?_ | (refine plan_take (v := ?_) rfl rfl (fun w' hS => ?_) ?_; rotate_left; · (go_simp; try with_reducible rfl))
    simp only [putL]
   refine plan_act rfl (fun K4 hK4 => ?_)
   have hq1 := hq8.1
   go_wp2_with fail
   refine hK4.out _ _ (.inl rfl) (plan_end ?_)
   clear hq1 hfr8 hq8
   generalize w8.setCell ⟨lb, 4, none⟩ (.slice a8 (ds.length + 1) c8) = w9 at *
   have q3 := HP.out.1.c3
   have f3 := HP.out.1.free 3
   dsimp only at q3
   have hfin := HP.out.1.setT (t + 1)
   have HF := Lib.hid (And.intro hfin.1 (HW.out.trans (HP.out.2.trans hfin.2)))
   clear hfin
   go_wp2_with fail
   go_ret
   exact Moved.yes HE0.out HG.out HF.out.1 HF.out.2
  ·refine plan_act rfl (fun K1 hK1 => ?_)
   go_wp2_with fail
   refine hK1.out _ _ (.inr hqb) ?_
   refine plan_act rfl (fun K2 hK2 => ?_)
   go_wp2_with fail
   refine (clipI_any da ds.length dc 1 _ _ hvb).mono ?_
   rintro e w' ⟨rfl, rfl⟩
   go_wp2_with fail
   refine hK2.out _ _ (.inr hqb) ?_
   refine plan_act rfl (fun K3 hK3 => ?_)
   refine wpList_appV2 _ rfl (.tmp 18) (.tmp 24) 49 49 rfl 3 i0 (.int .i64 0) 1 8 Tryz.underlying49 HIX.out.1 HIX.out.2.1 HIX.out.2.2.1 HIX.out.2.2.2 rfl da ds.length (ds.map iv) rfl hvb.clip2 (.slice (some ⟨yb.drew.heap.size, 0, none⟩) 1 1) 1 ([iv (top - 1)]) rfl hsrc ?_ ?_ ?_
   ·unfold maxLen; omega
   ·omega
   intro a8 c8 w8 hv8 hU8 hf8
   have HD8 := Lib.hid (HDb.out.other hU8)
   have hq8 := (show w8.cell? ⟨lb, 4, none⟩ = some (.slice da ds.length dc) ∧ w8.cell? ⟨lb, 3, none⟩ = some (.int .i64 top) from ⟨HD8.out.c4, HD8.out.c3⟩)
   have hfr8 := HD8.out.free 4
   have hput := HDb.out.put (g' := ⟨rr, fs, cs, top, ds ++ [top - 1], pd, n⟩) (A' := ⟨ra, rc, fa, fc, ka, kc, a8, c8⟩) hU8 4 (.slice a8 (ds.length + 1) c8) (by simp [logX]) HD8.out.rr HD8.out.fs HD8.out.cs (by simpa [iv] using hv8) HD8.out.n1 HD8.out.n2 HD8.out.n3 (fun q hq => (hf8 q hq).elim (fun e => (HDb.out.n4 q e).up hU8.size) (fun e => HDb.out.fresh e.1 e.2)) (fun x hx => .inl hx) rfl
   have HP := Lib.hid (And.intro hput.1 (HL.out.2.trans ((HUB.out.mono (fun _ _ h => h.elim)).trans hput.2)))
   clear hput hv8 hU8 hf8
   go_wp2_with fail
   refine hK3.out _ _ (.inr hq8) ?_
   iterate 2
    first | refine plan_skip rfl rfl ?_ | (refine plan_take (v := ?_) rfl rfl (fun w' hS => ?_) ?_; rotate_left; · (go_simp; try with_reducible rfl))
    simp only [putL]
   refine plan_act rfl (fun K4 hK4 => ?_)
   have hq1 := hq8.1
   go_wp2_with fail
   refine hK4.out _ _ (.inl rfl) (plan_end ?_)
   clear hq1 hfr8 hq8
   generalize w8.setCell ⟨lb, 4, none⟩ (.slice a8 (ds.length + 1) c8) = w9 at *
   have q3 := HP.out.1.c3
   have f3 := HP.out.1.free 3
   dsimp only at q3
   have hfin := HP.out.1.setT (t + 1)
   have HF := Lib.hid (And.intro hfin.1 (HW.out.trans (HP.out.2.trans hfin.2)))
   clear hfin
   go_wp2_with fail
   go_ret
   exact Moved.yes HE0.out HG.out HF.out.1 HF.out.2
theorem move_gen [Inhabited RbT] (g : Lx) (A : LA) (lb : Nat) (t : Int) (redo : Bool) (w : World) (h : LogX w lb g A) (ht0 : 0 ≤ g.top) (ht1 : g.top ≤ 2000) (htr : g.top ≤ g.rr.length) (hv0 : -1 ≤ t) (hv1 : t < 4294967296) (hd : g.ds.length ≤ 100000) :
  Calls Tryz.prog 101 #[.pointer (some ⟨lb, 0, none⟩), .int .i64 t, .bool redo] w (Moved w lb g t redo) := by
 cases hon : g.pd.on with
 | true => exact move_on g A lb t redo w h hon hd
 | false =>
  cases redo with
  | true => exact move_redoX g A lb t w h hon hv0 hv1 hd
  | false => exact move_undoX g A lb t w h hon ht0 ht1 htr hv0 hv1 hd
def numsB (l : List Int) : List UInt8 := i4 l.length ++ l.flatMap i4
def encF (x : Fl) : List UInt8 := tx x.path ++ b1 x.exec ++ tx x.text
def flsB (l : List Fl) : List UInt8 := i4 l.length ++ l.flatMap encF
theorem flat_take_le {X : Type} (f : X → List UInt8) (l : List X) (j : Nat) : ((l.take j).flatMap f).length ≤ (l.flatMap f).length := by
 have h : (l.take j ++ l.drop j).flatMap f = (l.take j).flatMap f ++ (l.drop j).flatMap f := List.flatMap_append
 rw [List.take_append_drop] at h
 rw [h, List.length_append]
 omega
theorem numsB_len (l : List Int) : (numsB l).length = 4 + l.length * 4 := by
 have h : ∀ l : List Int, (l.flatMap i4).length = l.length * 4 := fun l => by
  induction l with
  | nil => rfl
  | cons x l ih => rw [List.flatMap_cons, List.length_append, ih, i4_length, List.length_cons]; omega
 unfold numsB
 rw [List.length_append, i4_length, h]
theorem b1_len (b : Bool) : (b1 b).length = 1 := by cases b <;> rfl
theorem encF_len (x : Fl) : (encF x).length = x.path.length + x.text.length + 9 := by
 unfold encF; rw [List.length_append, List.length_append, tx_len, tx_len, b1_len]; omega
theorem flat_mem_le {X : Type} (f : X → List UInt8) (l : List X) (x : X) (h : x ∈ l) : (f x).length ≤ (l.flatMap f).length := by
 obtain ⟨a, b, rfl⟩ := List.append_of_mem h
 rw [List.flatMap_append, List.flatMap_cons, List.length_append, List.length_append]
 omega
set_option maxHeartbeats 4000000 in
theorem wnumbers_any {K : Nat → Prop} {w1 wr : World} {bw : Nat} {l : List UInt8} (h : Wn K 86 w1 wr bw l) (a : Option Addr) (c : Nat) (ns : List Int) (hl : (l ++ numsB ns).length ≤ 90000000)
  (hst : ∀ wz l', Wn K 86 w1 wz bw l' → Vw wz a ns.length c 1 (ns.map iv)) :
  Calls Tryz.prog 46 #[.pointer (some ⟨bw, 0, none⟩), .slice a ns.length c] wr fun e w' => e = .returned (.tuple #[]) ∧ Wn K 86 w1 w' bw (l ++ numsB ns) := by
 have hv := hst _ _ h
 have hcap := hv.cap
 have hlc := hv.le
 unfold maxLen at hcap
 have HST := Lib.hid hst
 rw [List.length_append, numsB_len] at hl
 have HD : Hid (numsB ns = i4 ns.length ++ ns.flatMap i4) := Lib.hid rfl
 generalize numsB ns = LL at *
 have hW := h
 clear h hv hst
 go_enter Tryz.func46, Tryz.ntmps46
 go_wp2_with fail
 refine (wn_int hW (by omega) (ns.length : Int)).mono ?_
 rintro e x1 ⟨rfl, hW1⟩
 clear hW
 have hW := hW1
 clear hW1
 go_wp2_with fail
 go_loopw [14] (fun i wr => ∃ j : Nat, j ≤ ns.length ∧ i = .int .i64 (j : Int) ∧ Wn K 86 w1 wr bw (l ++ i4 ns.length ++ (ns.take j).flatMap i4)) (fun i _ => ns.length - (intOf i).toNat)
 case atStart => exact ⟨0, Nat.zero_le _, rfl, by simpa using hW⟩
 case round =>
  clear hW
  obtain ⟨j, hj, rfl, hW⟩ := hrel
  by_cases hlt : j < ns.length
  ·have hI : (j : Int) < (ns.length : Int) := by omega
   obtain ⟨b, o, hb, hcell⟩ := (HST.out _ _ hW).at (by omega) (by decide)
   subst hb
   rename_i wr
   have q := hcell j _ (iv_at ns j hlt)
   have hsucc := flatMap_succ i4 ns j hlt
   have hlen : (l ++ i4 ns.length ++ (ns.take j).flatMap i4).length ≤ 90000000 := by
    have h1 := numsB_len (ns.take j)
    unfold numsB at h1
    rw [List.length_append, i4_length, List.length_take] at h1
    rw [List.length_append, List.length_append, i4_length]
    omega
   generalize ns[j] = v at *
   have HSU := Lib.hid hsucc
   clear hcell hsucc
   go_wp2_with fail
   refine (wn_int hW (by omega) v).mono ?_
   rintro e x1 ⟨rfl, hW1⟩
   rw [List.append_assoc, HSU.out] at hW1
   clear hW q hlen
   go_wp2_with fail
   go_roundw
   case rel => exact ⟨j + 1, by omega, by first | rfl | go_num, hW1⟩
   case measure => simp [intOf]; omega
  ·obtain rfl : j = ns.length := by omega
   rw [List.take_length, List.append_assoc, ← HD.out] at hW
   have hI : ¬ (ns.length : Int) < (ns.length : Int) := by omega
   go_wp2_with fail
   go_end0
   exact ⟨rfl, hW⟩
set_option maxHeartbeats 8000000 in
theorem wfiles_any {K : Nat → Prop} {w1 wr : World} {bw : Nat} {l : List UInt8} (h : Wn K 86 w1 wr bw l) (a : Option Addr) (c : Nat) (fs : List Fl) (hl : (l ++ flsB fs).length ≤ 90000000)
  (hst : ∀ wz l', Wn K 86 w1 wz bw l' → Vw wz a fs.length c 3 (fs.flatMap flV)) :
  Calls Tryz.prog 54 #[.pointer (some ⟨bw, 0, none⟩), .slice a fs.length c] wr fun e w' => e = .returned (.tuple #[]) ∧ Wn K 86 w1 w' bw (l ++ flsB fs) := by
 have hv := hst _ _ h
 have hcap := hv.cap
 have hlc := hv.le
 unfold maxLen at hcap
 have HST := Lib.hid hst
 have HD : Hid (flsB fs = i4 fs.length ++ fs.flatMap encF) := Lib.hid rfl
 rw [HD.out, List.length_append, List.length_append, i4_length] at hl
 generalize flsB fs = LL at *
 have hW := h
 clear h hv hst
 go_enter Tryz.func54, Tryz.ntmps54
 go_wp2_with fail
 refine (wn_int hW (by omega) (fs.length : Int)).mono ?_
 rintro e x1 ⟨rfl, hW1⟩
 clear hW
 have hW := hW1
 clear hW1
 go_wp2_with fail
 go_loopw [14] (fun i wr => ∃ j : Nat, j ≤ fs.length ∧ i = .int .i64 (j : Int) ∧ Wn K 86 w1 wr bw (l ++ i4 fs.length ++ (fs.take j).flatMap encF)) (fun i _ => fs.length - (intOf i).toNat)
 case atStart => exact ⟨0, Nat.zero_le _, rfl, by simpa using hW⟩
 case round =>
  clear hW
  obtain ⟨j, hj, rfl, hW⟩ := hrel
  by_cases hlt : j < fs.length
  ·have hI : (j : Int) < (fs.length : Int) := by omega
   obtain ⟨b, o, hb, hcell⟩ := (HST.out _ _ hW).at (by omega) (by decide)
   subst hb
   rename_i wr
   have q0 : wr.cell? ⟨b, o + j * 3, none⟩ = some (sv fs[j].path) := hcell (j * 3 + 0) _ (fl_get fs j 0 hlt (by decide))
   have q1 : wr.cell? ⟨b, o + j * 3 + 1, none⟩ = some (.bool fs[j].exec) := hcell (j * 3 + 1) _ (fl_get fs j 1 hlt (by decide))
   have q2 : wr.cell? ⟨b, o + j * 3 + 2, none⟩ = some (sv fs[j].text) := hcell (j * 3 + 2) _ (fl_get fs j 2 hlt (by decide))
   have hsucc := flatMap_succ encF fs j hlt
   have hlen : ((l ++ i4 fs.length ++ (fs.take j).flatMap encF) ++ encF fs[j]).length ≤ 90000000 := by
    have h1 := flat_take_le encF fs (j + 1)
    rw [List.append_assoc, hsucc, List.length_append, List.length_append, i4_length]
    omega
   rw [List.length_append, encF_len] at hlen
   generalize fs[j] = x at *
   obtain ⟨xp, xe, xt⟩ := x
   dsimp only at *
   have hent := hW.enter (.cells #[sv xp, .bool xe, sv xt] 103)
   have hnew := heap_alloc_new wr (.cells #[sv xp, .bool xe, sv xt] 103)
   unfold sv at q0 q2 hent hnew
   have HSU := Lib.hid hsucc
   have HW0 := Lib.hid hW
   have HNEW := Lib.hid hnew
   clear hcell hsucc hW hnew
   go_upto_region 4 with (fail)
   have hlv : ∀ w2 l', Wn (fun k => K k ∨ k = wr.heap.size) 86 (wr.alloc (.cells #[Value.string (str xp), .bool xe, Value.string (str xt)] 103)) w2 bw l' → Wn K 86 w1 w2 bw l' := fun w2 l' h => HW0.out.leave h
   have HLV := Lib.hid hlv
   clear hlv
   generalize hp0 : l ++ i4 (fs.length : Int) ++ (fs.take j).flatMap encF = p0 at hent hlen
   have HP0 := Lib.hid hp0
   have hnew := HNEW.out
   clear hp0
   obtain ⟨xb, hxb⟩ : ∃ xb, wr.heap.size = xb := ⟨_, rfl⟩
   rw [hxb] at hent hnew HLV ⊢
   generalize wr.alloc (.cells #[Value.string (str xp), .bool xe, Value.string (str xt)] 103) = y0 at *
   have HN := Lib.hid hnew
   clear hnew HNEW hxb HW0 q0 q1 q2
   have hW := hent
   clear hent
   have z0 : _ = some (Value.string (str xp)) := cell_of_row _ xb 0 _ _ _ (hW.row (Or.inr rfl) HN.out)
   refine wp_region_plan_last [([0, 1, 2, 3, 4], 5)] [] (fun w' => w'.cell? ⟨xb, 0, none⟩ = some (Value.string (str xp))) (by kernel_rfl) (by kernel_rfl) z0 ?_
   iterate 5
    refine plan_take (v := ?_) rfl rfl (fun w' hS => ?_) ?_
    rotate_left; · (go_simp; try with_reducible rfl)
    simp only [putL]
   have hWd := hW.other (Upd.drew _ _)
   refine plan_act rfl (fun KK hKK => ?_)
   go_wp2_with fail
   refine (wn_text hWd (by omega) xp (by omega)).mono ?_
   rintro e x1 ⟨rfl, hW1⟩
   clear hWd
   go_wp2_with fail
   refine hKK.out _ _ (.inl rfl) (plan_end ?_)
   clear hKK
   clear hW z0
   have hW := hW1
   clear hW1
   have hp1l : (p0 ++ tx xp).length ≤ p0.length + 4 + xp.length := by rw [List.length_append, tx_len]; omega
   generalize hL : p0 ++ tx xp = p1 at hW hp1l
   have Hp1 := Lib.hid hL
   clear hL
   go_wp2_with fail
   have z1 : _ = some (Value.bool xe) := cell_of_row _ xb 1 _ _ _ (hW.row (Or.inr rfl) HN.out)
   refine wp_region_plan_last [([0, 1, 2, 3, 4], 5)] [] (fun w' => w'.cell? ⟨xb, 1, none⟩ = some (Value.bool xe)) (by kernel_rfl) (by kernel_rfl) z1 ?_
   iterate 5
    refine plan_take (v := ?_) rfl rfl (fun w' hS => ?_) ?_
    rotate_left; · (go_simp; try with_reducible rfl)
    simp only [putL]
   have hWd := hW.other (Upd.drew _ _)
   refine plan_act rfl (fun KK hKK => ?_)
   go_wp2_with fail
   refine (wn_bool hWd (by omega) xe).mono ?_
   rintro e x1 ⟨rfl, hW1⟩
   clear hWd
   go_wp2_with fail
   refine hKK.out _ _ (.inl rfl) (plan_end ?_)
   clear hKK
   clear hW z1
   have hW := hW1
   clear hW1
   have hp2l : (p1 ++ b1 xe).length ≤ p0.length + 5 + xp.length := by rw [List.length_append, b1_len]; omega
   generalize hL : p1 ++ b1 xe = p2 at hW hp2l
   have Hp2 := Lib.hid hL
   clear hL
   go_wp2_with fail
   have z2 : _ = some (Value.string (str xt)) := cell_of_row _ xb 2 _ _ _ (hW.row (Or.inr rfl) HN.out)
   refine wp_region_plan_last [([0, 1, 2, 3, 4], 5)] [] (fun w' => w'.cell? ⟨xb, 2, none⟩ = some (Value.string (str xt))) (by kernel_rfl) (by kernel_rfl) z2 ?_
   iterate 5
    refine plan_take (v := ?_) rfl rfl (fun w' hS => ?_) ?_
    rotate_left; · (go_simp; try with_reducible rfl)
    simp only [putL]
   have hWd := hW.other (Upd.drew _ _)
   refine plan_act rfl (fun KK hKK => ?_)
   go_wp2_with fail
   refine (wn_text hWd (by omega) xt (by omega)).mono ?_
   rintro e x1 ⟨rfl, hW1⟩
   clear hWd
   go_wp2_with fail
   refine hKK.out _ _ (.inl rfl) (plan_end ?_)
   clear hKK
   clear hW z2
   have hW := hW1
   clear hW1
   have hp3l : (p2 ++ tx xt).length ≤ p0.length + 9 + xp.length + xt.length := by rw [List.length_append, tx_len]; omega
   generalize hL : p2 ++ tx xt = p3 at hW hp3l
   have Hp3 := Lib.hid hL
   clear hL
   have hW2 := HLV.out _ _ hW
   have heq : p3 = l ++ i4 (fs.length : Int) ++ (fs.take (j + 1)).flatMap encF := by
    rw [← HSU.out, ← Hp3.out, ← Hp2.out, ← Hp1.out, ← HP0.out]
    simp [encF]
   rw [heq] at hW2
   clear heq hW
   go_wp2_with fail
   go_roundw
   case rel => exact ⟨j + 1, by omega, by first | rfl | go_num, hW2⟩
   case measure => simp [intOf]; omega
  ·obtain rfl : j = fs.length := by omega
   rw [List.take_length, List.append_assoc, ← HD.out] at hW
   have hI : ¬ (fs.length : Int) < (fs.length : Int) := by omega
   go_wp2_with fail
   go_end0
   exact ⟨rfl, hW⟩
end Go.Proofs.YtccejkikphpnfaaGreatDoor
