
/- move: an undo, a redo, a redo that is refused; such records are added. -/
import Derived.Test.YtccejkikphpnfaaGreatDoorMet14
namespace Go.Proofs.YtccejkikphpnfaaGreatDoor
set_option linter.unusedSimpArgs false
set_option linter.unusedVariables false
set_option maxRecDepth 100000
open Go.ChangeShapes Go.WideShapes Go.ChangeAt Go.RowKit

theorem LogW.setT {w : World} {lb : Nat} {g : Lg} {A : LA} (h : LogW w lb g A) (m : Int) : LogW (w.setCell ⟨lb, 3, none⟩ (.int .i64 m)) lb ⟨g.rr, g.fs, g.cs, m, g.ds, g.n⟩ A ∧ Upd (fun q => q = lb) w (w.setCell ⟨lb, 3, none⟩ (.int .i64 m)) :=
  h.put (g' := ⟨g.rr, g.fs, g.cs, m, g.ds, g.n⟩) (A' := A) (Upd.refl _ _) 3 (.int .i64 m) (by simp [logA]) h.rr h.fs h.cs h.ds h.n1 h.n2 h.n3 h.n4

set_option maxHeartbeats 8000000 in
theorem move_undo (g : Lg) (A : LA) (lb : Nat) (v : Int) (x : RRow) (w : World) (h : LogW w lb g A) (ht0 : 1 ≤ g.top) (ht1 : g.top ≤ 2000) (hx : g.rr[(g.top - 1).toNat]? = some x) (hv : x.p = v) (hv0 : -1 ≤ v) (hv1 : v < 2000) (hd : g.ds.length ≤ 100000) :
    Calls Tryz.prog 101 #[.pointer (some ⟨lb, 0, none⟩), .int .i64 v, .bool false] w fun e w' => e = .returned (.int .i64 0) ∧ ∃ A', LogW w' lb ⟨g.rr, g.fs, g.cs, v + 1, g.ds ++ [g.top - 1], g.n⟩ A' ∧ Upd (fun q => q = lb) w w' := by
  obtain ⟨ra, rc, fa, fc, ka, kc, da, dc⟩ := A
  obtain ⟨rr, fs, cs, top, ds, n⟩ := g
  dsimp only at *
  have hlen := (List.getElem?_eq_some_iff.1 hx).1
  obtain ⟨b, o, hb, hcell⟩ := h.rr.at (by show 0 < rr.length; omega) (by decide)
  dsimp only at hb
  subst hb
  have hq := hcell ((top - 1).toNat * 5 + 0) _ (rr_get rr (top - 1).toNat x hx)
  have htn : (top - 1).toNat = top.toNat - 1 := by omega
  rw [Nat.add_zero, hv, htn] at hq
  have htw : IntKind.i64.wrap (top - 1) = top - 1 := IntWalk.i64_in _ (by omega)
  have hvw : IntKind.i64.wrap (v + 1) = v + 1 := IntWalk.i64_in _ (by omega)
  have hI0 : (top == 0) = false := by simp; omega
  have hI1 : (0 : Int) ≤ top - 1 := by omega
  have hI2 : top - 1 < (rr.length : Int) := by omega
  have hbe : (v != v) = false := by simp
  have hcapr := h.rr.cap
  have hlr := h.rr.le
  unfold maxLen at hcapr
  dsimp only at hcapr hlr
  have HI := Lib.hid h
  have q0 := h.c0
  have q3 := h.c3
  have q4 := h.c4
  have q5 := h.c5
  dsimp only at q0 q3 q4 q5
  clear h hcell hx hv htn
  go_enter Tryz.func101, Tryz.ntmps101
  go_upto_region 6 with (fail)
  refine wp_region_plan_last [] [0, 1, 2, 3, 4, 5, 6, 7, 8, 9, 10, 11, 12, 13, 14, 15, 16, 17, 18, 19, 20, 21, 22, 23, 24, 25] (fun w' => w'.cell? ⟨lb, 3, none⟩ = some (.int .i64 top) ∧ w'.cell? ⟨lb, 0, none⟩ = some (.slice (some ⟨b, o, none⟩) rr.length rc) ∧ w'.cell? ⟨b, o + (top.toNat - 1) * 5, none⟩ = some (.int .i64 v)) (by kernel_rfl) (by kernel_rfl) ⟨q3, q0, hq⟩ ?_
  iterate 26
    first
    | (refine plan_lskip rfl rfl ?_)
    | (refine plan_last (v := ?_) rfl rfl (fun w' hS => ?_) ?_
       rotate_left
       · skip
         go_simp; try with_reducible rfl)
    simp only [Act.put, List.getElem_toArray, List.getElem_cons_zero, List.getElem_cons_succ, List.setIfInBounds_toArray, List.set_cons_zero, List.set_cons_succ]
  refine plan_end ?_
  have HL := Lib.hid (And.intro HI.out.drew (Upd.refl (fun q => q = lb) w.drew))
  have HW := Lib.hid (Upd.drew (fun q => q = lb) w)
  clear HI q0 q3 q4 q5 hq hI0 hI1 hI2 hbe
  generalize hra : (some ⟨b, o, none⟩ : Option Addr) = ra at *
  clear hra
  go_upto_region 2 with (fail)
  generalize w.drew = yb at *
  ·
    have HD := Lib.hid HL.out.1.drew
    have hq := (show yb.drew.cell? ⟨lb, 4, none⟩ = some (.slice da ds.length dc) ∧ yb.drew.cell? ⟨lb, 3, none⟩ = some (.int .i64 top) from ⟨HD.out.c4, HD.out.c3⟩)
    have hv0 := HD.out.ds
    dsimp only at hv0
    obtain ⟨i0, hi, hz0, hz1, hz2⟩ := info_parts4 infoIntZ
    have HIX := Lib.hid (And.intro hi (And.intro hz0 (And.intro hz1 hz2)))
    clear hi hz0 hz1 hz2
    refine wp_region_fork_last [0, 1, 2, 3, 4, 6, 7, 8, 9, 10] 5 11 ([([], 11), ([], 12), ([13, 14], 15)], []) ([([], 5), ([], 12), ([13, 14], 15)], []) (fun w' => w'.cell? ⟨lb, 4, none⟩ = some (.slice da ds.length dc) ∧ w'.cell? ⟨lb, 3, none⟩ = some (.int .i64 top)) (by kernel_rfl) (by kernel_rfl) hq ?_
    iterate 10
      first
      | (refine fork_lskip rfl rfl ?_)
      | (refine fork_last (v := ?_) rfl rfl (fun w' hS => ?_) ?_
         rotate_left
         · skip
           go_simp; try with_reducible rfl)
      simp only [Act.put, List.getElem_toArray, List.getElem_cons_zero, List.getElem_cons_succ, List.setIfInBounds_toArray, List.set_cons_zero, List.set_cons_succ]
    have hUb := Upd.alloc (fun _ => False) yb.drew (.cells #[.int .i64 (top - 1)] 3)
    have HDb := Lib.hid (HD.out.other hUb)
    have HUB := Lib.hid ((Upd.drew (fun _ => False) yb).trans hUb)
    have hqb := (show (yb.drew.alloc (.cells #[.int .i64 (top - 1)] 3)).cell? ⟨lb, 4, none⟩ = some (.slice da ds.length dc) ∧ (yb.drew.alloc (.cells #[.int .i64 (top - 1)] 3)).cell? ⟨lb, 3, none⟩ = some (.int .i64 top) from ⟨HDb.out.c4, HDb.out.c3⟩)
    have hvb := HDb.out.ds
    dsimp only at hvb
    have hsrc : Src Tryz.prog 1 49 (.slice (some ⟨yb.drew.heap.size, 0, none⟩) 1 1) 1 ([iv (top - 1)]) (yb.drew.alloc (.cells #[.int .i64 (top - 1)] 3)) := int_src _ _
    clear hUb
    refine fork_both ?_ ?_
    · refine plan_act rfl (fun K1 hK1 => ?_)
      go_wp2_with fail
      refine (clipI_any da ds.length dc 1 _ _ hv0).mono ?_
      rintro e w' ⟨rfl, rfl⟩
      go_wp2_with fail
      refine hK1.out _ _ (.inr hq) ?_
      refine plan_act rfl (fun K2 hK2 => ?_)
      go_wp2_with fail
      refine hK2.out _ _ (.inr hqb) ?_
      refine plan_act rfl (fun K3 hK3 => ?_)
      refine wpList_appV _ rfl (.tmp 18) (.tmp 24) 49 49 rfl 3 i0 (.int .i64 0) 1 8 Tryz.underlying49 HIX.out.1 HIX.out.2.1 HIX.out.2.2.1 HIX.out.2.2.2 rfl da ds.length (ds.map iv) rfl hvb.clip2 (.slice (some ⟨yb.drew.heap.size, 0, none⟩) 1 1) 1 ([iv (top - 1)]) rfl hsrc ?_ ?_ ?_
      · unfold maxLen; omega
      · omega
      intro a8 c8 w8 hv8 hU8 hf8
      have HD8 := Lib.hid (HDb.out.other hU8)
      have hq8 := (show w8.cell? ⟨lb, 4, none⟩ = some (.slice da ds.length dc) ∧ w8.cell? ⟨lb, 3, none⟩ = some (.int .i64 top) from ⟨HD8.out.c4, HD8.out.c3⟩)
      have hfr8 := HD8.out.free 4
      have hput := HDb.out.put (g' := ⟨rr, fs, cs, top, ds ++ [top - 1], n⟩) (A' := ⟨ra, rc, fa, fc, ka, kc, a8, c8⟩) hU8 4 (.slice a8 (ds.length + 1) c8) (by simp [logA]) HD8.out.rr HD8.out.fs HD8.out.cs (by simpa [iv] using hv8) HD8.out.n1 HD8.out.n2 HD8.out.n3 (fun q hq => (hf8 q hq).elim (fun e => HDb.out.n4 q e) (fun e => Nat.ne_of_gt (Nat.lt_of_lt_of_le HDb.out.lt e)))
      have HP := Lib.hid (And.intro hput.1 (HL.out.2.trans ((HUB.out.mono (fun _ _ h => h.elim)).trans hput.2)))
      clear hput hv8 hU8 hf8
      go_wp2_with fail
      refine hK3.out _ _ (.inr hq8) ?_
      iterate 2
        first
        | (refine plan_skip rfl rfl ?_)
        | (refine plan_take (v := ?_) rfl rfl (fun w' hS => ?_) ?_
           rotate_left
           · skip
             go_simp; try with_reducible rfl)
        simp only [Act.put, List.getElem_toArray, List.getElem_cons_zero, List.getElem_cons_succ, List.setIfInBounds_toArray, List.set_cons_zero, List.set_cons_succ]
      refine plan_act rfl (fun K4 hK4 => ?_)
      have hq1 := hq8.1
      go_wp2_with fail
      refine hK4.out _ _ (.inl rfl) (plan_end ?_)
      clear hq1 hfr8 hq8
      generalize w8.setCell ⟨lb, 4, none⟩ (.slice a8 (ds.length + 1) c8) = w9 at *
      have q3 := HP.out.1.c3
      have f3 := HP.out.1.free 3
      dsimp only at q3
      have hfin := HP.out.1.setT (v + 1)
      have HF := Lib.hid (And.intro hfin.1 (HW.out.trans (HP.out.2.trans hfin.2)))
      clear hfin
      go_wp2_with fail
      go_ret
      exact ⟨rfl, ⟨_, HF.out.1⟩, HF.out.2⟩
    · refine plan_act rfl (fun K1 hK1 => ?_)
      go_wp2_with fail
      refine hK1.out _ _ (.inr hqb) ?_
      refine plan_act rfl (fun K2 hK2 => ?_)
      go_wp2_with fail
      refine (clipI_any da ds.length dc 1 _ _ hvb).mono ?_
      rintro e w' ⟨rfl, rfl⟩
      go_wp2_with fail
      refine hK2.out _ _ (.inr hqb) ?_
      refine plan_act rfl (fun K3 hK3 => ?_)
      refine wpList_appV _ rfl (.tmp 18) (.tmp 24) 49 49 rfl 3 i0 (.int .i64 0) 1 8 Tryz.underlying49 HIX.out.1 HIX.out.2.1 HIX.out.2.2.1 HIX.out.2.2.2 rfl da ds.length (ds.map iv) rfl hvb.clip2 (.slice (some ⟨yb.drew.heap.size, 0, none⟩) 1 1) 1 ([iv (top - 1)]) rfl hsrc ?_ ?_ ?_
      · unfold maxLen; omega
      · omega
      intro a8 c8 w8 hv8 hU8 hf8
      have HD8 := Lib.hid (HDb.out.other hU8)
      have hq8 := (show w8.cell? ⟨lb, 4, none⟩ = some (.slice da ds.length dc) ∧ w8.cell? ⟨lb, 3, none⟩ = some (.int .i64 top) from ⟨HD8.out.c4, HD8.out.c3⟩)
      have hfr8 := HD8.out.free 4
      have hput := HDb.out.put (g' := ⟨rr, fs, cs, top, ds ++ [top - 1], n⟩) (A' := ⟨ra, rc, fa, fc, ka, kc, a8, c8⟩) hU8 4 (.slice a8 (ds.length + 1) c8) (by simp [logA]) HD8.out.rr HD8.out.fs HD8.out.cs (by simpa [iv] using hv8) HD8.out.n1 HD8.out.n2 HD8.out.n3 (fun q hq => (hf8 q hq).elim (fun e => HDb.out.n4 q e) (fun e => Nat.ne_of_gt (Nat.lt_of_lt_of_le HDb.out.lt e)))
      have HP := Lib.hid (And.intro hput.1 (HL.out.2.trans ((HUB.out.mono (fun _ _ h => h.elim)).trans hput.2)))
      clear hput hv8 hU8 hf8
      go_wp2_with fail
      refine hK3.out _ _ (.inr hq8) ?_
      iterate 2
        first
        | (refine plan_skip rfl rfl ?_)
        | (refine plan_take (v := ?_) rfl rfl (fun w' hS => ?_) ?_
           rotate_left
           · skip
             go_simp; try with_reducible rfl)
        simp only [Act.put, List.getElem_toArray, List.getElem_cons_zero, List.getElem_cons_succ, List.setIfInBounds_toArray, List.set_cons_zero, List.set_cons_succ]
      refine plan_act rfl (fun K4 hK4 => ?_)
      have hq1 := hq8.1
      go_wp2_with fail
      refine hK4.out _ _ (.inl rfl) (plan_end ?_)
      clear hq1 hfr8 hq8
      generalize w8.setCell ⟨lb, 4, none⟩ (.slice a8 (ds.length + 1) c8) = w9 at *
      have q3 := HP.out.1.c3
      have f3 := HP.out.1.free 3
      dsimp only at q3
      have hfin := HP.out.1.setT (v + 1)
      have HF := Lib.hid (And.intro hfin.1 (HW.out.trans (HP.out.2.trans hfin.2)))
      clear hfin
      go_wp2_with fail
      go_ret
      exact ⟨rfl, ⟨_, HF.out.1⟩, HF.out.2⟩

set_option maxHeartbeats 4000000 in
theorem move_redo (g : Lg) (A : LA) (lb : Nat) (v : Int) (D : List Int) (w : World) (h : LogW w lb g A) (hds : g.ds = D ++ [v]) (hv0 : -1 ≤ v) (hv1 : v < 2000) (hd : g.ds.length ≤ 100000) :
    Calls Tryz.prog 101 #[.pointer (some ⟨lb, 0, none⟩), .int .i64 v, .bool true] w fun e w' => e = .returned (.int .i64 0) ∧ ∃ A', LogW w' lb ⟨g.rr, g.fs, g.cs, v + 1, D, g.n⟩ A' ∧ Upd (fun q => q = lb) w w' := by
  obtain ⟨ra, rc, fa, fc, ka, kc, da, dc⟩ := A
  obtain ⟨rr, fs, cs, top, ds, n⟩ := g
  dsimp only at *
  subst hds
  have hll : (D ++ [v]).length = D.length + 1 := by simp
  obtain ⟨b, o, hb, hcell⟩ := h.ds.at (by show 0 < (D ++ [v]).length; omega) (by decide)
  dsimp only at hb
  subst hb
  have hq := hcell D.length (.int .i64 v) (by simp [iv])
  have hdw : IntKind.i64.wrap (((D ++ [v]).length : Int) - 1) = (D.length : Int) := by rw [hll]; exact (IntWalk.i64_in _ (by omega)).trans (by omega)
  have hvw : IntKind.i64.wrap (v + 1) = v + 1 := IntWalk.i64_in _ (by omega)
  have hI0 : (((D ++ [v]).length : Int) == 0) = false := by rw [hll]; simp; omega
  have hI2 : (D.length : Int) < ((D ++ [v]).length : Int) := by rw [hll]; omega
  have hbe : (v != v) = false := by simp
  have hcapr := h.ds.cap
  have hlr := h.ds.le
  unfold maxLen at hcapr
  dsimp only at hcapr hlr
  have hI3 : (D.length : Int) ≤ (dc : Int) := by omega
  have hpre := h.ds.pre D.length (by show D.length ≤ (D ++ [v]).length; omega)
  have hpx : ((D ++ [v]).map iv).take (D.length * 1) = D.map iv := by simp
  dsimp only at hpre
  rw [hpx] at hpre
  have HPRE := Lib.hid hpre
  have HI := Lib.hid h
  have q4 := h.c4
  have q5 := h.c5
  have f4 := h.free 4
  have f3 := h.free 3
  have q3 := h.c3
  dsimp only at q4 q5 q3
  have hlt := h.lt
  generalize hnn : ((D ++ [v]).length : Nat) = nn at *
  clear h hcell hpre hpx
  go_enter Tryz.func101, Tryz.ntmps101
  go_upto_region 6 with (fail)
  refine wp_region_plan_last [] [0, 1, 2, 3, 4, 5, 6, 7, 8, 9, 10, 11, 12, 13, 14, 15, 16, 17, 18, 19, 20, 21, 22, 23, 24, 25] (fun w' => True) (by kernel_rfl) (by kernel_rfl) trivial ?_
  iterate 26
    first
    | (refine plan_lskip rfl rfl ?_)
    | (refine plan_last (v := ?_) rfl rfl (fun w' hS => ?_) ?_
       rotate_left
       · skip
         go_simp; try with_reducible rfl)
    simp only [Act.put, List.getElem_toArray, List.getElem_cons_zero, List.getElem_cons_succ, List.setIfInBounds_toArray, List.set_cons_zero, List.set_cons_succ]
  refine plan_end ?_
  have HId := Lib.hid HI.out.drew
  have HPD := Lib.hid (HPRE.out.upd (Upd.drew (fun _ => False) w) (fun _ _ h => h))
  have HUD := Lib.hid (Upd.drew (fun q => q = lb) w)
  clear HI HPRE q3 q4 q5 f3 f4
  go_upto_region 9 with (fail)
  generalize w.drew = y at *
  have q4 := HId.out.c4
  have f4 := HId.out.free 4
  dsimp only at q4
  rw [hnn] at q4
  go_wp2_with fail
  refine (clipI_any (some ⟨b, o, none⟩) D.length dc 1 (D.map iv) _ HPD.out).mono ?_
  rintro e w' ⟨rfl, rfl⟩
  have hput := HId.out.put (g' := ⟨rr, fs, cs, top, D, n⟩) (A' := ⟨ra, rc, fa, fc, ka, kc, some ⟨b, o, none⟩, D.length⟩) (Upd.refl _ _) 4 (.slice (some ⟨b, o, none⟩) D.length D.length) (by simp [logA]) HId.out.rr HId.out.fs HId.out.cs HPD.out.clip2 HId.out.n1 HId.out.n2 HId.out.n3 HId.out.n4
  have HP := Lib.hid (And.intro hput.1 (HUD.out.trans hput.2))
  clear hput
  go_upto_region 10 with (fail)
  generalize y.setCell ⟨lb, 4, none⟩ (.slice (some ⟨b, o, none⟩) D.length D.length) = y2 at *
  have hfin := HP.out.1.setT (v + 1)
  have HF := Lib.hid (And.intro hfin.1 (HP.out.2.trans hfin.2))
  have q3e := HP.out.1.c3
  have f3e := HP.out.1.free 3
  dsimp only at q3e
  clear hfin q4 f4
  go_wp2_with fail
  go_ret
  exact ⟨rfl, ⟨_, HF.out.1⟩, HF.out.2⟩
end Go.Proofs.YtccejkikphpnfaaGreatDoor

