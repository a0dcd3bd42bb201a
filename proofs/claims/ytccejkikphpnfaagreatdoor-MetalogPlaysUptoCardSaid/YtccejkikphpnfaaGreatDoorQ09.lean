
/- The log's block, with views on what it leads to; addRoot. -/
import Derived.Test.YtccejkikphpnfaaGreatDoorQ08
namespace Go.Proofs.YtccejkikphpnfaaGreatDoor
set_option linter.unusedSimpArgs false
set_option linter.unusedVariables false
set_option maxRecDepth 100000
open Go.ChangeShapes Go.WideShapes Go.ChangeAt Go.RowKit
/-- A root as it lies in the log. -/
structure RRow where
 p : Int
 a : Option Addr
 n : Nat
 c : Nat
 k : Int
def rrV (x : RRow) : List Value := [.int .i64 x.p, .slice x.a x.n x.c, .slice none 0 0, .slice none 0 0, .int .i64 x.k]
theorem rrV_len (x : RRow) : (rrV x).length = 5 := rfl
def iv (x : Int) : Value := .int .i64 x
structure Lg where
 rr : List RRow
 fs : List Int
 cs : List Ky
 top : Int
 ds : List Int
 n : Int
structure LA where
 ra : Option Addr
 rc : Nat
 fa : Option Addr
 fc : Nat
 ka : Option Addr
 kc : Nat
 da : Option Addr
 dc : Nat
def logA (g : Lg) (A : LA) : Array Value := #[.slice A.ra g.rr.length A.rc, .slice A.fa g.fs.length A.fc, .slice A.ka g.cs.length A.kc, .int .i64 g.top, .slice A.da g.ds.length A.dc, .bool false, .bool false, .int .i64 0, .int .i64 0, .slice none 0 0, .int .i64 0, .slice none 0 0, .int .i64 g.n]
structure LogW (w : World) (lb : Nat) (g : Lg) (A : LA) : Prop where
 row : w.heap[lb]? = some (.cells (logA g A) 105)
 rr : Vw w A.ra g.rr.length A.rc 5 (g.rr.flatMap rrV)
 fs : Vw w A.fa g.fs.length A.fc 1 (g.fs.map iv)
 cs : Vw w A.ka g.cs.length A.kc 32 (g.cs.flatMap kyV)
 ds : Vw w A.da g.ds.length A.dc 1 (g.ds.map iv)
 n1 : ∀ q, blk A.ra = some q → q ≠ lb
 n2 : ∀ q, blk A.fa = some q → q ≠ lb
 n3 : ∀ q, blk A.ka = some q → q ≠ lb
 n4 : ∀ q, blk A.da = some q → q ≠ lb
section
variable {w w' w8 : World} {lb : Nat} {g g' : Lg} {A A' : LA}
theorem LogW.lt (h : LogW w lb g A) : lb < w.heap.size := lt_of_heap h.row
theorem LogW.other (h : LogW w lb g A) (hU : Upd (fun _ => False) w w') : LogW w' lb g A :=
 ⟨(hU.block lb h.lt (fun h => h)).trans h.row, h.rr.upd hU (fun _ _ h => h), h.fs.upd hU (fun _ _ h => h), h.cs.upd hU (fun _ _ h => h), h.ds.upd hU (fun _ _ h => h), h.n1, h.n2, h.n3, h.n4⟩
theorem LogW.drew (h : LogW w lb g A) : LogW w.drew lb g A := h.other (Upd.drew _ _)
theorem LogW.put (h : LogW w lb g A) (hU : Upd (fun _ => False) w w8) (j : Nat) (u : Value) (hc : (logA g A).setIfInBounds j u = logA g' A')
  (h1 : Vw w8 A'.ra g'.rr.length A'.rc 5 (g'.rr.flatMap rrV)) (h2 : Vw w8 A'.fa g'.fs.length A'.fc 1 (g'.fs.map iv)) (h3 : Vw w8 A'.ka g'.cs.length A'.kc 32 (g'.cs.flatMap kyV)) (h4 : Vw w8 A'.da g'.ds.length A'.dc 1 (g'.ds.map iv))
  (m1 : ∀ q, blk A'.ra = some q → q ≠ lb) (m2 : ∀ q, blk A'.fa = some q → q ≠ lb) (m3 : ∀ q, blk A'.ka = some q → q ≠ lb) (m4 : ∀ q, blk A'.da = some q → q ≠ lb) :
  LogW (w8.setCell ⟨lb, j, none⟩ u) lb g' A' ∧ Upd (fun q => q = lb) w (w8.setCell ⟨lb, j, none⟩ u) := by
 have hst := Upd.setCell (S := fun q => q = lb) w8 (p := ⟨lb, j, none⟩) rfl u
 have h8 := h.other hU
 refine ⟨⟨?_, h1.upd hst m1, h2.upd hst m2, h3.upd hst m3, h4.upd hst m4, m1, m2, m3, m4⟩, (hU.mono (fun _ _ h => h.elim)).trans hst⟩
 rw [setCell_heap j u h8.row, hc]
theorem LogW.free (h : LogW w lb g A) (j : Nat) : w.frozen? ⟨lb, j, none⟩ = false := free_row h.row
theorem LogW.c0 (h : LogW w lb g A) : w.cell? ⟨lb, 0, none⟩ = some (.slice A.ra g.rr.length A.rc) := by rw [cell_of_row _ _ _ _ _ _ h.row]; rfl
theorem LogW.c1 (h : LogW w lb g A) : w.cell? ⟨lb, 1, none⟩ = some (.slice A.fa g.fs.length A.fc) := by rw [cell_of_row _ _ _ _ _ _ h.row]; rfl
theorem LogW.c2 (h : LogW w lb g A) : w.cell? ⟨lb, 2, none⟩ = some (.slice A.ka g.cs.length A.kc) := by rw [cell_of_row _ _ _ _ _ _ h.row]; rfl
theorem LogW.c3 (h : LogW w lb g A) : w.cell? ⟨lb, 3, none⟩ = some (.int .i64 g.top) := by rw [cell_of_row _ _ _ _ _ _ h.row]; rfl
theorem LogW.c4 (h : LogW w lb g A) : w.cell? ⟨lb, 4, none⟩ = some (.slice A.da g.ds.length A.dc) := by rw [cell_of_row _ _ _ _ _ _ h.row]; rfl
theorem LogW.c12 (h : LogW w lb g A) : w.cell? ⟨lb, 12, none⟩ = some (.int .i64 g.n) := by rw [cell_of_row _ _ _ _ _ _ h.row]; rfl
end
def pendA : Array Value := #[.bool false, .bool false, .int .i64 0, .int .i64 0, .slice none 0 0, .int .i64 0, .slice none 0 0]
theorem infoPend : (Tryz.prog.info? 30).map (·.size) = some 7 := by kernel_rfl
theorem setCells_same {b : Nat} {cs : Array Value} {t : TypeId} {fr : Nat × Nat} : ∀ (vs : List Value) (o : Nat) (w : World), w.heap[b]? = some (.cells cs t fr) → (∀ j v, vs[j]? = some v → cs[o + j]? = some v) → (w.setCells b o vs).heap[b]? = some (.cells cs t fr)
 | [], o, w, h, _ => h
 | v :: r, o, w, h, hv => by
  have h0 := hv 0 v rfl
  have e : cs.setIfInBounds o v = cs := by
   apply Array.ext_getElem?
   intro i
   rw [Array.getElem?_setIfInBounds]
   by_cases hi : o = i
   ·subst hi
    rw [if_pos rfl]
    rw [Nat.add_zero] at h0
    have := (Array.getElem?_eq_some_iff.1 h0).1
    rw [if_pos this, h0]
   ·rw [if_neg hi]
  have h1 := setCell_heap o v h
  rw [e] at h1
  exact setCells_same r (o + 1) _ h1 (fun j u hu => by rw [show o + 1 + j = o + (j + 1) from by omega]; exact hv (j + 1) u (by simpa using hu))
theorem Upd.setCells {S : Nat → Prop} {g : Nat} (hg : S g) : ∀ (vs : List Value) (o : Nat) (w : World), Upd S w (w.setCells g o vs)
 | [], o, w => Upd.refl _ _
 | v :: r, o, w => (Upd.setCell (S := S) w (p := ⟨g, o, none⟩) hg v).trans (Upd.setCells hg r (o + 1) _)
theorem log_pend (g : Lg) (A : LA) : ∀ j v, pendA.toList[j]? = some v → (logA g A)[5 + j]? = some v := by
 intro j v hv
 have hj : j < 7 := (List.getElem?_eq_some_iff.1 hv).1
 match j, hj with
 | 0, _ => exact hv
 | 1, _ => exact hv
 | 2, _ => exact hv
 | 3, _ => exact hv
 | 4, _ => exact hv
 | 5, _ => exact hv
 | 6, _ => exact hv
theorem LogW.pend {w : World} {lb : Nat} {g : Lg} {A : LA} (h : LogW w lb g A) : LogW (w.setCells lb 5 pendA.toList) lb g A ∧ Upd (fun q => q = lb) w (w.setCells lb 5 pendA.toList) := by
 have hst := Upd.setCells (S := fun q => q = lb) rfl pendA.toList 5 w
 exact ⟨⟨setCells_same _ _ _ h.row (log_pend g A), h.rr.upd hst h.n1, h.fs.upd hst h.n2, h.cs.upd hst h.n3, h.ds.upd hst h.n4, h.n1, h.n2, h.n3, h.n4⟩, hst⟩
theorem LogW.there {w : World} {lb : Nat} {g : Lg} {A : LA} (h : LogW w lb g A) : w.there lb 5 pendA.size := fun j hj => by
 refine ⟨?_, h.free _⟩
 have hj' : j < pendA.toList.length := hj
 rw [cell_of_row _ _ _ _ _ _ h.row, log_pend g A j _ (List.getElem?_eq_getElem hj')]
 rfl
theorem exec_load_row {P : Program} {w : World} {ev : Operand → Value} {o : Oper} (ty : TypeId) (x : Operand) (ho : o.op = .load ty x) (b : Nat) (cs : Array Value) (t : TypeId) (fr : Nat × Nat) (d : TypeDesc)
  (hx : ev x = .pointer (some ⟨b, 0, none⟩)) (hg : w.heap[b]? = some (.cells cs t fr)) (hu : P.underlying ty = some d) (hd : d.isRow = true) (hi : (P.info? ty).map (·.size) = some cs.size) :
  (execOp ev o).run P w = .ok (.value (.agg cs)) w := by
 have := run_loadVar_row (P := P) w b t ty cs fr d hg hu (by cases d <;> simp_all) hi
 unfold execOp
 simp only [ho, hx, Instr.loadAt, Instr.sureAddr, Sem.run_bind, Sem.run_pure, Result.andThen_ok, this]
theorem infoRootZ : (Tryz.prog.info? 26).map (fun i => (i.zero, i.size, i.bytes)) = some (some (.agg (rootA 0 none 0 0 0)), 5, 88) := by kernel_rfl
theorem infoIntZ : (Tryz.prog.info? 3).map (fun i => (i.zero, i.size, i.bytes)) = some (some (.int .i64 0), 1, 8) := by kernel_rfl
theorem int_src (w : World) (x : Int) : Src Tryz.prog 1 49 (.slice (some ⟨w.heap.size, 0, none⟩) 1 1) 1 [iv x] (w.alloc (.cells #[.int .i64 x] 3)) :=
 row_src (X := #[.int .i64 x]) Tryz.underlying49 rfl (by simp [Value.oneCell']) (heap_alloc_new w _)
theorem root_fill (p : Int) (a : Option Addr) (n c : Nat) (k : Int) : Instr.fill (fun i => some (i * 5, 5)) ((Array.range (1 * 5)).map ((Value.agg (rootA 0 none 0 0 0)).cells[· % (Value.agg (rootA 0 none 0 0 0)).cells.size]!)) [(0, .agg (rootA p a n c k))] = some (rootA p a n c k) := by
 kernel_rfl
theorem wpList_slice_root {ops : Array Oper} {rest : List Oper} {op : Oper} {ac : Act} {w : World} {Q : Exit → Act → World → Prop} (hgd : op.guard = none) (x : Operand) (ho : op.op = .buildSlice 67 1 #[(0, x)])
  (p : Int) (a : Option Addr) (n c : Nat) (k : Int) (ha : ac.eval x = .agg (rootA p a n c k)) (h : wpList Tryz.prog ops Q rest (ac.put op.dst (.slice (some ⟨w.heap.size, 0, none⟩) 1 1)) (w.alloc (.cells (rootA p a n c k) 26))) : wpList Tryz.prog ops Q (op :: rest) ac w :=
 wpList_plain hgd fun _ hK => by
  obtain ⟨i0, hi, hz0, hz1, hz2⟩ := info_parts4 infoRootZ
  have hf := root_fill p a n c k
  have hr : (Instr.buildSlice 67 1 #[(0, .agg (rootA p a n c k))]).run Tryz.prog w = .ok (.slice (some ⟨w.heap.size, 0, none⟩) 1 1) (w.alloc (.cells (rootA p a n c k) 26)) := by
   generalize rootA p a n c k = X at *
   generalize rootA 0 none 0 0 0 = Z at *
   simp only [Instr.buildSlice, run_underlying Tryz.underlying67, Sem.run_bind, Result.andThen_ok, sizeOf, typeInfo, zeroValue, hi, hz0, hz1, Sem.run_pure, run_program]
   simp [hz0, hz1, hi, hf, newRow, sizeOf, typeInfo, zeroValue]
  unfold Oper.wp execOp
  simp only [ho, List.map_toArray, List.map_cons, List.map_nil, ha, Sem.run_bind, hr, Result.andThen_ok, Sem.run_pure]
  exact hK _ _ h
set_option maxHeartbeats 8000000 in
theorem addRoot_any (g : Lg) (A : LA) (lb : Nat) (a : Option Addr) (c : Nat) (ks : List Ky) (k : Int) (w : World) (h : LogW w lb g A) (hn : g.rr.length < 2000) (hc : g.cs.length + ks.length ≤ 2000) (hf : g.fs.length ≤ 2000) (ht0 : 0 ≤ g.top) (ht1 : g.top ≤ 2000) (ha : ∀ q, blk a = some q → q ≠ lb)
  (hv : Vw w a ks.length c 32 (ks.flatMap kyV)) :
  Calls Tryz.prog 97 #[.pointer (some ⟨lb, 0, none⟩), .agg (rootA (g.top - 1) a ks.length c k)] w fun e w' => e = .returned (.int .i64 0) ∧
   ∃ A', LogW w' lb ⟨g.rr ++ [⟨g.top - 1, a, ks.length, c, k⟩], g.fs ++ [(g.cs.length : Int)], g.cs ++ ks, (g.rr.length : Int) + 1, [], g.n⟩ A' ∧ Upd (fun q => q = lb) w w' := by
 obtain ⟨ra, rc, fa, fc, ka, kc, da, dc⟩ := A
 obtain ⟨rr, fs, cs, top, ds, n⟩ := g
 dsimp only at *
 have hU1 := Upd.alloc (fun _ => False) w (.cells (rootA (top - 1) a ks.length c k) 26)
 have hrow := heap_alloc_new w (.cells (rootA (top - 1) a ks.length c k) 26)
 have h1 := h.other hU1
 have hv1 := hv.upd hU1 (fun _ _ h => h)
 have hlt := h.lt
 unfold rootA at hU1 hrow h1 hv1 ⊢
 have htw : IntKind.i64.wrap (top - 1) = top - 1 := IntWalk.i64_in _ (by omega)
 have HT := Lib.hid (And.intro ht0 ht1)
 have HI := Lib.hid (And.intro h1 (And.intro hrow (And.intro hv1 hU1)))
 clear hU1 hrow h1 hv1 hv h ht0 ht1
 go_enter Tryz.func97, Tryz.ntmps97
 go_upto_region 1 with (fail)
 generalize w.alloc (.cells #[.int .i64 (top - 1), .slice a ks.length c, .slice none 0 0, .slice none 0 0, .int .i64 k] 26) = y0 at *
 obtain ⟨RB, hRB⟩ : ∃ B, w.heap.size = B := ⟨_, rfl⟩
 rw [hRB] at HI hlt ⊢
 have HRB := Lib.hid hRB
 clear hRB
 obtain ⟨z0, z1, z2, z3, z4⟩ := root_cells HI.out.2.1
 clear z2 z3 z4
 have q2 := HI.out.1.c2
 have q3 := HI.out.1.c3
 have q0 := HI.out.1.c0
 dsimp only at q0 q2 q3
 refine wp_region_plan_last [] [0, 1, 2, 3, 4, 5, 6, 7, 8] (fun w' => w'.cell? ⟨RB, 0, none⟩ = some (.int .i64 (top - 1)) ∧ w'.cell? ⟨lb, 3, none⟩ = some (.int .i64 top)) (by kernel_rfl) (by kernel_rfl) ⟨z0, q3⟩ ?_
 iterate 9
  first | refine plan_lskip rfl rfl ?_ | (refine plan_last (v := ?_) rfl rfl (fun w' hS => ?_) ?_; rotate_left; · (go_simp; try with_reducible rfl))
  simp only [putL]
 refine plan_end ?_
 have hbe : (top - 1 != top - 1) = false := by simp
 have hI1 : decide ((2000 : Int) ≤ (rr.length : Int)) = false := by rw [decide_eq_false_iff_not]; omega
 have hI2 : decide ((2000 : Int) < (cs.length : Int) + (ks.length : Int)) = false := by rw [decide_eq_false_iff_not]; omega
 have hI3 : IntKind.i64.wrap ((cs.length : Int) + (ks.length : Int)) = (cs.length : Int) + (ks.length : Int) := IntWalk.i64_in _ (by omega)
 clear z0 q3 htw
 go_upto_region 3 with (fail)
 refine wp_region_plan_last [] [0, 1, 2, 3, 4, 5, 6, 7, 8, 9, 10, 11, 12, 13, 14, 15, 16, 17, 18] (fun w' => w'.cell? ⟨lb, 0, none⟩ = some (.slice ra rr.length rc) ∧ w'.cell? ⟨lb, 2, none⟩ = some (.slice ka cs.length kc) ∧ w'.cell? ⟨RB, 1, none⟩ = some (.slice a ks.length c)) (by kernel_rfl) (by kernel_rfl) ⟨q0, q2, z1⟩ ?_
 iterate 19
  first | refine plan_lskip rfl rfl ?_ | (refine plan_last (v := ?_) rfl rfl (fun w' hS => ?_) ?_; rotate_left; · (go_simp; try with_reducible rfl))
  simp only [putL]
 refine plan_end ?_
 clear hbe q0 q2 z1
 have HI2 := Lib.hid (And.intro HI.out.1.drew.drew (And.intro HI.out.2.1 (HI.out.2.2.1.upd ((Upd.drew (fun _ => False) y0).trans (Upd.drew _ _)) (fun _ _ h => h))))
 have HU2 := Lib.hid (HI.out.2.2.2.trans ((Upd.drew (fun _ => False) y0).trans (Upd.drew _ _)))
 have HG : Hid (∀ w', Upd (fun q => q = lb) y0.drew.drew w' → w'.heap[RB]? = some (.cells #[.int .i64 (top - 1), .slice a ks.length c, .slice none 0 0, .slice none 0 0, .int .i64 k] 26)) := Lib.hid (fun w' hU => (hU.block RB (lt_of_heap (w := y0.drew.drew) HI.out.2.1) (by omega)).trans HI.out.2.1)
 have HL := Lib.hid (And.intro HI2.out.1 (Upd.refl (fun q => q = lb) y0.drew.drew))
 have HV := Lib.hid HI2.out.2.2
 have HA := Lib.hid ha
 clear HI hI1 hI2 hI3 HI2 ha
 go_upto_region 5 with (fail)
 generalize y0.drew.drew = yb at *
 go_cut [] (fun wx => ∃ a8 c8, Hid (LogW wx lb ⟨rr, fs ++ [(cs.length : Int)], cs, top, ds, n⟩ ⟨ra, rc, a8, c8, ka, kc, da, dc⟩ ∧ Upd (fun q => q = lb) yb wx))
 case first =>
  have HD := Lib.hid HL.out.1.drew
  have hq := (show yb.drew.cell? ⟨lb, 1, none⟩ = some (.slice fa fs.length fc) ∧ yb.drew.cell? ⟨lb, 2, none⟩ = some (.slice ka cs.length kc) from ⟨HD.out.c1, HD.out.c2⟩)
  have hv0 := HD.out.fs
  dsimp only at hv0
  obtain ⟨i0, hi, hz0, hz1, hz2⟩ := info_parts4 infoIntZ
  have HIX := Lib.hid (And.intro hi (And.intro hz0 (And.intro hz1 hz2)))
  clear hi hz0 hz1 hz2
  refine wp_region_fork_last [0, 1, 2, 3, 4, 6, 7, 8, 9, 10] 5 11 ([([], 11), ([], 12), ([13, 14], 15)], []) ([([], 5), ([], 12), ([13, 14], 15)], []) (fun w' => w'.cell? ⟨lb, 1, none⟩ = some (.slice fa fs.length fc) ∧ w'.cell? ⟨lb, 2, none⟩ = some (.slice ka cs.length kc)) (by kernel_rfl) (by kernel_rfl) hq ?_
  iterate 10
   first | refine fork_lskip rfl rfl ?_ | (refine fork_last (v := ?_) rfl rfl (fun w' hS => ?_) ?_; rotate_left; · (go_simp; try with_reducible rfl))
   simp only [putL]
  have hUb := Upd.alloc (fun _ => False) yb.drew (.cells #[.int .i64 (cs.length : Int)] 3)
  have HDb := Lib.hid (HD.out.other hUb)
  have HUB := Lib.hid ((Upd.drew (fun _ => False) yb).trans hUb)
  have hqb := (show (yb.drew.alloc (.cells #[.int .i64 (cs.length : Int)] 3)).cell? ⟨lb, 1, none⟩ = some (.slice fa fs.length fc) ∧ (yb.drew.alloc (.cells #[.int .i64 (cs.length : Int)] 3)).cell? ⟨lb, 2, none⟩ = some (.slice ka cs.length kc) from ⟨HDb.out.c1, HDb.out.c2⟩)
  have hvb := HDb.out.fs
  dsimp only at hvb
  have hsrc : Src Tryz.prog 1 49 (.slice (some ⟨yb.drew.heap.size, 0, none⟩) 1 1) 1 ([iv cs.length]) (yb.drew.alloc (.cells #[.int .i64 (cs.length : Int)] 3)) := int_src _ _
  clear hUb
  refine fork_both ?_ ?_
  ·refine plan_act rfl (fun K1 hK1 => ?_)
   go_wp2_with fail
   refine (clipI_any fa fs.length fc 1 _ _ hv0).mono ?_
   rintro e w' ⟨rfl, rfl⟩
   go_wp2_with fail
   refine hK1.out _ _ (.inr hq) ?_
   refine plan_act rfl (fun K2 hK2 => ?_)
   go_wp2_with fail
   refine hK2.out _ _ (.inr hqb) ?_
   refine plan_act rfl (fun K3 hK3 => ?_)
   refine wpList_appV _ rfl (.tmp 38) (.tmp 44) 49 49 rfl 3 i0 (.int .i64 0) 1 8 Tryz.underlying49 HIX.out.1 HIX.out.2.1 HIX.out.2.2.1 HIX.out.2.2.2 rfl fa fs.length (fs.map iv) rfl hvb.clip2 (.slice (some ⟨yb.drew.heap.size, 0, none⟩) 1 1) 1 ([iv cs.length]) rfl hsrc ?_ ?_ ?_
   ·unfold maxLen; omega
   ·omega
   intro a8 c8 w8 hv8 hU8 hf8
   have HD8 := Lib.hid (HDb.out.other hU8)
   have hq8 := (show w8.cell? ⟨lb, 1, none⟩ = some (.slice fa fs.length fc) ∧ w8.cell? ⟨lb, 2, none⟩ = some (.slice ka cs.length kc) from ⟨HD8.out.c1, HD8.out.c2⟩)
   have hfr8 := HD8.out.free 1
   have hput := HDb.out.put (g' := ⟨rr, fs ++ [(cs.length : Int)], cs, top, ds, n⟩) (A' := ⟨ra, rc, a8, c8, ka, kc, da, dc⟩) hU8 1 (.slice a8 (fs.length + 1) c8) (by simp [logA]) HD8.out.rr (by simpa [iv] using hv8) HD8.out.cs HD8.out.ds HD8.out.n1 (fun q hq => (hf8 q hq).elim (fun e => HDb.out.n2 q e) (fun e => Nat.ne_of_gt (Nat.lt_of_lt_of_le HDb.out.lt e))) HD8.out.n3 HD8.out.n4
   have HP := Lib.hid (And.intro hput.1 (HL.out.2.trans ((HUB.out.mono (fun _ _ h => h.elim)).trans hput.2)))
   clear hput hv8 hU8 hf8
   go_wp2_with fail
   refine hK3.out _ _ (.inr hq8) ?_
   iterate 2
    first | refine plan_skip rfl rfl ?_ | (refine plan_take (v := ?_) rfl rfl (fun w' hS => ?_) ?_; rotate_left; · (go_simp; try with_reducible rfl))
    simp only [putL]
   refine plan_act rfl (fun K4 hK4 => ?_)
   have hq1 := hq8.1
   go_wp2_with fail
   refine hK4.out _ _ (.inl rfl) (plan_end ?_)
   go_wp2_with fail
   go_meet
   case rel => exact ⟨a8, c8, HP⟩
  ·refine plan_act rfl (fun K1 hK1 => ?_)
   go_wp2_with fail
   refine hK1.out _ _ (.inr hqb) ?_
   refine plan_act rfl (fun K2 hK2 => ?_)
   go_wp2_with fail
   refine (clipI_any fa fs.length fc 1 _ _ hvb).mono ?_
   rintro e w' ⟨rfl, rfl⟩
   go_wp2_with fail
   refine hK2.out _ _ (.inr hqb) ?_
   refine plan_act rfl (fun K3 hK3 => ?_)
   refine wpList_appV _ rfl (.tmp 38) (.tmp 44) 49 49 rfl 3 i0 (.int .i64 0) 1 8 Tryz.underlying49 HIX.out.1 HIX.out.2.1 HIX.out.2.2.1 HIX.out.2.2.2 rfl fa fs.length (fs.map iv) rfl hvb.clip2 (.slice (some ⟨yb.drew.heap.size, 0, none⟩) 1 1) 1 ([iv cs.length]) rfl hsrc ?_ ?_ ?_
   ·unfold maxLen; omega
   ·omega
   intro a8 c8 w8 hv8 hU8 hf8
   have HD8 := Lib.hid (HDb.out.other hU8)
   have hq8 := (show w8.cell? ⟨lb, 1, none⟩ = some (.slice fa fs.length fc) ∧ w8.cell? ⟨lb, 2, none⟩ = some (.slice ka cs.length kc) from ⟨HD8.out.c1, HD8.out.c2⟩)
   have hfr8 := HD8.out.free 1
   have hput := HDb.out.put (g' := ⟨rr, fs ++ [(cs.length : Int)], cs, top, ds, n⟩) (A' := ⟨ra, rc, a8, c8, ka, kc, da, dc⟩) hU8 1 (.slice a8 (fs.length + 1) c8) (by simp [logA]) HD8.out.rr (by simpa [iv] using hv8) HD8.out.cs HD8.out.ds HD8.out.n1 (fun q hq => (hf8 q hq).elim (fun e => HDb.out.n2 q e) (fun e => Nat.ne_of_gt (Nat.lt_of_lt_of_le HDb.out.lt e))) HD8.out.n3 HD8.out.n4
   have HP := Lib.hid (And.intro hput.1 (HL.out.2.trans ((HUB.out.mono (fun _ _ h => h.elim)).trans hput.2)))
   clear hput hv8 hU8 hf8
   go_wp2_with fail
   refine hK3.out _ _ (.inr hq8) ?_
   iterate 2
    first | refine plan_skip rfl rfl ?_ | (refine plan_take (v := ?_) rfl rfl (fun w' hS => ?_) ?_; rotate_left; · (go_simp; try with_reducible rfl))
    simp only [putL]
   refine plan_act rfl (fun K4 hK4 => ?_)
   have hq1 := hq8.1
   go_wp2_with fail
   refine hK4.out _ _ (.inl rfl) (plan_end ?_)
   go_wp2_with fail
   go_meet
   case rel => exact ⟨a8, c8, HP⟩
 case rest =>
 clear HL
 obtain ⟨fa, fc, HL⟩ := hcut
 go_upto_region 6 with (fail)
 go_cut [] (fun wx => ∃ a8 c8, Hid (LogW wx lb ⟨rr, fs ++ [(cs.length : Int)], cs ++ ks, top, ds, n⟩ ⟨ra, rc, fa, fc, a8, c8, da, dc⟩ ∧ Upd (fun q => q = lb) yb wx))
 case first =>
  have HD := Lib.hid HL.out.1.drew
  have hzc := (root_cells (HG.out _ (HL.out.2.trans (Upd.drew _ _)))).2.1
  have hq := (show wc.drew.cell? ⟨lb, 2, none⟩ = some (.slice ka cs.length kc) ∧ wc.drew.cell? ⟨RB, 1, none⟩ = some (.slice a ks.length c) from ⟨HD.out.c2, hzc⟩)
  have hv0 := HD.out.cs
  dsimp only at hv0
  obtain ⟨i0, hi, hz0, hz1, hz2⟩ := info_parts4 infoKeyZ
  have HIX := Lib.hid (And.intro hi (And.intro hz0 (And.intro hz1 hz2)))
  clear hi hz0 hz1 hz2 hzc
  refine wp_region_plan_last [([0, 1, 2, 3, 4, 6, 7], 5), ([], 8), ([9, 10], 11)] [] (fun w' => w'.cell? ⟨lb, 2, none⟩ = some (.slice ka cs.length kc) ∧ w'.cell? ⟨RB, 1, none⟩ = some (.slice a ks.length c)) (by kernel_rfl) (by kernel_rfl) hq ?_
  iterate 7
   first | refine plan_skip rfl rfl ?_ | (refine plan_take (v := ?_) rfl rfl (fun w' hS => ?_) ?_; rotate_left; · (go_simp; try with_reducible rfl))
   simp only [putL]
  refine plan_act rfl (fun K1 hK1 => ?_)
  go_wp2_with fail
  refine (clipK_any ka cs.length kc 32 _ _ hv0).mono ?_
  rintro e w' ⟨rfl, rfl⟩
  go_wp2_with fail
  refine hK1.out _ _ (.inr hq) ?_
  have hsrc := (HV.out.upd (HL.out.2.trans (Upd.drew _ _)) HA.out).src (P := Tryz.prog) (t := 22) Tryz.underlying22 (kysV_one ks)
  refine plan_act rfl (fun K3 hK3 => ?_)
  refine wpList_appV _ rfl (.tmp 53) (.tmp 55) 22 22 rfl 52 i0 (.agg (kyA kyZ)) 32 32 Tryz.underlying22 HIX.out.1 HIX.out.2.1 HIX.out.2.2.1 HIX.out.2.2.2 (kyA_size kyZ) ka cs.length (cs.flatMap kyV) rfl hv0.clip2 (.slice a ks.length c) ks.length (ks.flatMap kyV) rfl hsrc ?_ ?_ ?_
  ·unfold maxLen; omega
  ·omega
  intro a8 c8 w8 hv8 hU8 hf8
  have HD8 := Lib.hid (HD.out.other hU8)
  have hz8 := (root_cells (HG.out _ ((HL.out.2.trans (Upd.drew _ _)).trans (hU8.mono (fun _ _ h => h.elim))))).2.1
  have hq8 := (show w8.cell? ⟨lb, 2, none⟩ = some (.slice ka cs.length kc) ∧ w8.cell? ⟨RB, 1, none⟩ = some (.slice a ks.length c) from ⟨HD8.out.c2, hz8⟩)
  have hfr8 := HD8.out.free 2
  have hput := HD.out.put (g' := ⟨rr, fs ++ [(cs.length : Int)], cs ++ ks, top, ds, n⟩) (A' := ⟨ra, rc, fa, fc, a8, c8, da, dc⟩) hU8 2 (.slice a8 (cs.length + ks.length) c8) (by simp [logA]) HD8.out.rr HD8.out.fs (by simpa using hv8) HD8.out.ds HD8.out.n1 HD8.out.n2 (fun q hq => (hf8 q hq).elim (fun e => HD.out.n3 q e) (fun e => Nat.ne_of_gt (Nat.lt_of_lt_of_le HD.out.lt e))) HD8.out.n4
  have HP := Lib.hid (And.intro hput.1 (HL.out.2.trans ((Upd.drew _ _).trans hput.2)))
  clear hput hv8 hU8 hf8 hsrc hz8
  go_wp2_with fail
  refine hK3.out _ _ (.inr hq8) ?_
  iterate 2
   first | refine plan_skip rfl rfl ?_ | (refine plan_take (v := ?_) rfl rfl (fun w' hS => ?_) ?_; rotate_left; · (go_simp; try with_reducible rfl))
   simp only [putL]
  refine plan_act rfl (fun K4 hK4 => ?_)
  have hq1 := hq8.1
  go_wp2_with fail
  refine hK4.out _ _ (.inl rfl) (plan_end ?_)
  go_wp2_with fail
  go_meet
  case rel => exact ⟨a8, c8, HP⟩
 case rest =>
 clear HL
 obtain ⟨ka, kc, HL⟩ := hcut
 go_upto_region 7 with (fail)
 go_cut [] (fun wx => ∃ a8 c8, Hid (LogW wx lb ⟨rr ++ [⟨top - 1, a, ks.length, c, k⟩], fs ++ [(cs.length : Int)], cs ++ ks, top, ds, n⟩ ⟨a8, c8, fa, fc, ka, kc, da, dc⟩ ∧ Upd (fun q => q = lb) yb wx))
 case first =>
  have HD := Lib.hid HL.out.1.drew
  have hq := (show wc.drew.cell? ⟨lb, 0, none⟩ = some (.slice ra rr.length rc) ∧ wc.drew.heap[RB]? = some (.cells (rootA (top - 1) a ks.length c k) 26 (0, 0)) from ⟨HD.out.c0, HG.out _ (HL.out.2.trans (Upd.drew _ _))⟩)
  have hv0 := HD.out.rr
  dsimp only at hv0
  obtain ⟨i0, hi, hz0, hz1, hz2⟩ := info_parts4 infoRootZ
  have HIX := Lib.hid (And.intro hi (And.intro hz0 (And.intro hz1 hz2)))
  clear hi hz0 hz1 hz2
  refine wp_region_fork_last [0, 1, 2, 3, 4, 6] 5 7 ([([], 7), ([], 8), ([9, 10], 11)], []) ([([], 5), ([], 8), ([9, 10], 11)], []) (fun w' => w'.cell? ⟨lb, 0, none⟩ = some (.slice ra rr.length rc) ∧ w'.heap[RB]? = some (.cells (rootA (top - 1) a ks.length c k) 26 (0, 0))) (by kernel_rfl) (by kernel_rfl) hq ?_
  iterate 5
   first | refine fork_lskip rfl rfl ?_ | (refine fork_last (v := ?_) rfl rfl (fun w' hS => ?_) ?_; rotate_left; · (go_simp; try with_reducible rfl))
   simp only [putL]
  refine fork_last (v := .agg (rootA (top - 1) a ks.length c k)) rfl rfl (fun w' hS => exec_load_row 26 (.tmp 3) rfl RB (rootA (top - 1) a ks.length c k) 26 (0, 0) _ rfl hS.2 Tryz.underlying26 rfl (by rw [infoRoot]; rfl)) ?_
  simp only [putL]
  have hUb := Upd.alloc (fun _ => False) wc.drew (.cells (rootA (top - 1) a ks.length c k) 26)
  have HDb := Lib.hid (HD.out.other hUb)
  have HUB := Lib.hid ((Upd.drew (fun _ => False) wc).trans hUb)
  have hqb := (show (wc.drew.alloc (.cells (rootA (top - 1) a ks.length c k) 26)).cell? ⟨lb, 0, none⟩ = some (.slice ra rr.length rc) ∧ (wc.drew.alloc (.cells (rootA (top - 1) a ks.length c k) 26)).heap[RB]? = some (.cells (rootA (top - 1) a ks.length c k) 26 (0, 0)) from ⟨HDb.out.c0, HG.out _ (HL.out.2.trans (HUB.out.mono (fun _ _ h => h.elim)))⟩)
  have hvb := HDb.out.rr
  dsimp only at hvb
  have hsrc : Src Tryz.prog 5 67 (.slice (some ⟨wc.drew.heap.size, 0, none⟩) 1 1) 1 (rrV ⟨top - 1, a, ks.length, c, k⟩) (wc.drew.alloc (.cells (rootA (top - 1) a ks.length c k) 26)) := row_src (X := rootA (top - 1) a ks.length c k) Tryz.underlying67 rfl (rootA_one _ _ _ _ _) (heap_alloc_new _ _)
  clear hUb
  refine fork_both ?_ ?_
  ·refine plan_act rfl (fun K1 hK1 => ?_)
   go_wp2_with fail
   refine (clipR_any ra rr.length rc 5 _ _ hv0).mono ?_
   rintro e w' ⟨rfl, rfl⟩
   go_wp2_with fail
   refine hK1.out _ _ (.inr hq) ?_
   refine plan_act rfl (fun K2 hK2 => ?_)
   refine wpList_slice_root rfl (.tmp 65) rfl (top - 1) a ks.length c k rfl ?_
   go_wp2_with fail
   refine hK2.out _ _ (.inr hqb) ?_
   refine plan_act rfl (fun K3 hK3 => ?_)
   refine wpList_appV _ rfl (.tmp 64) (.tmp 66) 67 67 rfl 26 i0 (.agg (rootA 0 none 0 0 0)) 5 88 Tryz.underlying67 HIX.out.1 HIX.out.2.1 HIX.out.2.2.1 HIX.out.2.2.2 rfl ra rr.length (rr.flatMap rrV) rfl hvb.clip2 (.slice (some ⟨wc.drew.heap.size, 0, none⟩) 1 1) 1 (rrV ⟨top - 1, a, ks.length, c, k⟩) rfl hsrc ?_ ?_ ?_
   ·unfold maxLen; omega
   ·omega
   intro a8 c8 w8 hv8 hU8 hf8
   have HD8 := Lib.hid (HDb.out.other hU8)
   have hq8 := (show w8.cell? ⟨lb, 0, none⟩ = some (.slice ra rr.length rc) ∧ w8.heap[RB]? = some (.cells (rootA (top - 1) a ks.length c k) 26 (0, 0)) from ⟨HD8.out.c0, HG.out _ (HL.out.2.trans ((HUB.out.mono (fun _ _ h => h.elim)).trans (hU8.mono (fun _ _ h => h.elim))))⟩)
   have hfr8 := HD8.out.free 0
   have hput := HDb.out.put (g' := ⟨rr ++ [⟨top - 1, a, ks.length, c, k⟩], fs ++ [(cs.length : Int)], cs ++ ks, top, ds, n⟩) (A' := ⟨a8, c8, fa, fc, ka, kc, da, dc⟩) hU8 0 (.slice a8 (rr.length + 1) c8) (by simp [logA]) (by simpa using hv8) HD8.out.fs HD8.out.cs HD8.out.ds (fun q hq => (hf8 q hq).elim (fun e => HDb.out.n1 q e) (fun e => Nat.ne_of_gt (Nat.lt_of_lt_of_le HDb.out.lt e))) HD8.out.n2 HD8.out.n3 HD8.out.n4
   have HP := Lib.hid (And.intro hput.1 (HL.out.2.trans ((HUB.out.mono (fun _ _ h => h.elim)).trans hput.2)))
   clear hput hv8 hU8 hf8
   go_wp2_with fail
   refine hK3.out _ _ (.inr hq8) ?_
   iterate 2
    first | refine plan_skip rfl rfl ?_ | (refine plan_take (v := ?_) rfl rfl (fun w' hS => ?_) ?_; rotate_left; · (go_simp; try with_reducible rfl))
    simp only [putL]
   refine plan_act rfl (fun K4 hK4 => ?_)
   have hq1 := hq8.1
   go_wp2_with fail
   refine hK4.out _ _ (.inl rfl) (plan_end ?_)
   go_wp2_with fail
   go_meet
   case rel => exact ⟨a8, c8, HP⟩
  ·refine plan_act rfl (fun K1 hK1 => ?_)
   refine wpList_slice_root rfl (.tmp 65) rfl (top - 1) a ks.length c k rfl ?_
   go_wp2_with fail
   refine hK1.out _ _ (.inr hqb) ?_
   refine plan_act rfl (fun K2 hK2 => ?_)
   go_wp2_with fail
   refine (clipR_any ra rr.length rc 5 _ _ hvb).mono ?_
   rintro e w' ⟨rfl, rfl⟩
   go_wp2_with fail
   refine hK2.out _ _ (.inr hqb) ?_
   refine plan_act rfl (fun K3 hK3 => ?_)
   refine wpList_appV _ rfl (.tmp 64) (.tmp 66) 67 67 rfl 26 i0 (.agg (rootA 0 none 0 0 0)) 5 88 Tryz.underlying67 HIX.out.1 HIX.out.2.1 HIX.out.2.2.1 HIX.out.2.2.2 rfl ra rr.length (rr.flatMap rrV) rfl hvb.clip2 (.slice (some ⟨wc.drew.heap.size, 0, none⟩) 1 1) 1 (rrV ⟨top - 1, a, ks.length, c, k⟩) rfl hsrc ?_ ?_ ?_
   ·unfold maxLen; omega
   ·omega
   intro a8 c8 w8 hv8 hU8 hf8
   have HD8 := Lib.hid (HDb.out.other hU8)
   have hq8 := (show w8.cell? ⟨lb, 0, none⟩ = some (.slice ra rr.length rc) ∧ w8.heap[RB]? = some (.cells (rootA (top - 1) a ks.length c k) 26 (0, 0)) from ⟨HD8.out.c0, HG.out _ (HL.out.2.trans ((HUB.out.mono (fun _ _ h => h.elim)).trans (hU8.mono (fun _ _ h => h.elim))))⟩)
   have hfr8 := HD8.out.free 0
   have hput := HDb.out.put (g' := ⟨rr ++ [⟨top - 1, a, ks.length, c, k⟩], fs ++ [(cs.length : Int)], cs ++ ks, top, ds, n⟩) (A' := ⟨a8, c8, fa, fc, ka, kc, da, dc⟩) hU8 0 (.slice a8 (rr.length + 1) c8) (by simp [logA]) (by simpa using hv8) HD8.out.fs HD8.out.cs HD8.out.ds (fun q hq => (hf8 q hq).elim (fun e => HDb.out.n1 q e) (fun e => Nat.ne_of_gt (Nat.lt_of_lt_of_le HDb.out.lt e))) HD8.out.n2 HD8.out.n3 HD8.out.n4
   have HP := Lib.hid (And.intro hput.1 (HL.out.2.trans ((HUB.out.mono (fun _ _ h => h.elim)).trans hput.2)))
   clear hput hv8 hU8 hf8
   go_wp2_with fail
   refine hK3.out _ _ (.inr hq8) ?_
   iterate 2
    first | refine plan_skip rfl rfl ?_ | (refine plan_take (v := ?_) rfl rfl (fun w' hS => ?_) ?_; rotate_left; · (go_simp; try with_reducible rfl))
    simp only [putL]
   refine plan_act rfl (fun K4 hK4 => ?_)
   have hq1 := hq8.1
   go_wp2_with fail
   refine hK4.out _ _ (.inl rfl) (plan_end ?_)
   go_wp2_with fail
   go_meet
   case rel => exact ⟨a8, c8, HP⟩
 case rest =>
 clear HL
 obtain ⟨ra, rc, HL⟩ := hcut
 have q0 := HL.out.1.c0
 have q3 := HL.out.1.c3
 have f3 := HL.out.1.free 3
 dsimp only at q0 q3
 rw [List.length_append, List.length_singleton] at q0
 go_upto_region 9 with (fail)
 have hput := HL.out.1.put (g' := ⟨rr ++ [⟨top - 1, a, ks.length, c, k⟩], fs ++ [(cs.length : Int)], cs ++ ks, (rr.length : Int) + 1, ds, n⟩) (A' := ⟨ra, rc, fa, fc, ka, kc, da, dc⟩) (Upd.refl _ _) 3 (.int .i64 ((rr.length : Int) + 1)) (by simp [logA]) HL.out.1.rr HL.out.1.fs HL.out.1.cs HL.out.1.ds HL.out.1.n1 HL.out.1.n2 HL.out.1.n3 HL.out.1.n4
 have HP := Lib.hid (And.intro hput.1 (HL.out.2.trans hput.2))
 clear hput q0 q3 f3
 generalize wc.setCell ⟨lb, 3, none⟩ (.int .i64 ((rr.length : Int) + 1)) = wd at *
 have hput := HP.out.1.put (g' := ⟨rr ++ [⟨top - 1, a, ks.length, c, k⟩], fs ++ [(cs.length : Int)], cs ++ ks, (rr.length : Int) + 1, [], n⟩) (A' := ⟨ra, rc, fa, fc, ka, kc, none, 0⟩) (Upd.refl _ _) 4 (.slice none 0 0) (by simp [logA]) HP.out.1.rr HP.out.1.fs HP.out.1.cs (Vw.nl _ _) HP.out.1.n1 HP.out.1.n2 HP.out.1.n3 (fun q e => by cases e)
 have HQ := Lib.hid (And.intro hput.1 (HP.out.2.trans hput.2))
 have q4 := HP.out.1.c4
 have f4 := HP.out.1.free 4
 dsimp only at q4
 clear hput
 go_wp2_with first
  | refine wpList_store_mid rfl 30 (.tmp 84) (.tmp 80) rfl lb 5 pendA rfl rfl HQ.out.1.there (by rw [infoPend]; rfl) (by simp [pendA, Value.oneCell']) ?_
 have hfin := HQ.out.1.pend
 have HF := Lib.hid (And.intro hfin.1 (HQ.out.2.trans hfin.2))
 clear hfin q4 f4
 generalize (wd.setCell ⟨lb, 4, none⟩ (.slice none 0 0)).setCells lb 5 pendA.toList = we at *
 go_wp2_with fail
 go_ret
 exact ⟨rfl, ⟨ra, rc, fa, fc, ka, kc, none, 0⟩, HF.out.1, (HU2.out.mono (fun _ _ h => h.elim)).trans HF.out.2⟩
end Go.Proofs.YtccejkikphpnfaaGreatDoor
