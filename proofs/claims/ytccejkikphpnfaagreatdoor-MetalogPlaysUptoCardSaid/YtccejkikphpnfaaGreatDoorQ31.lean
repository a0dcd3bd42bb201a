
/- Records that are known are added; At, Records, New in general. -/
import Derived.Test.YtccejkikphpnfaaGreatDoorQ21
import Derived.Test.YtccejkikphpnfaaGreatDoorQ30
namespace Go.Proofs.YtccejkikphpnfaaGreatDoor
set_option linter.unusedSimpArgs false
set_option linter.unusedVariables false
set_option maxRecDepth 100000
open Go.ChangeShapes Go.WideShapes Go.ChangeAt Go.RowKit
def PendC (w : World) (p : Wt) (e : Ending) (w' : World) : Prop := ∃ q : Wt, e = .returned (.agg (wtA q)) ∧ q.on = p.on ∧ wtC q = wtC p ∧ WtIn w' q ∧ Upd (fun _ => False) w w'
def pendR (p : Wt) (a : Option Addr) (c : Nat) (a6 : Option Addr) (c6 : Nat) : Array Value := #[.bool p.on, .bool p.re, .int .i64 p.src, .int .i64 p.dst, .slice a p.ss.length c, .int .i64 p.com, .slice a6 p.cs.length c6]
/-- In Pending's round. -/
structure Pq (w : World) (p : Wt) (xs : List St) (a : Option Addr) (c : Nat) (a6 : Option Addr) (c6 : Nat) (wr : World) : Prop where
 row : wr.heap[w.heap.size + 1]? = some (.cells (pendR p a c a6 c6) 30)
 res : wr.heap[w.heap.size]? = some (.cells pendA 30)
 own : wr.ownsRow (w.heap.size + 2) 80 2 (.slice a p.ss.length c) p.ss.length (xs.flatMap stV)
 cl : Vw wr a6 p.cs.length c6 3 (p.cs.flatMap clV)
 a6b : ∀ k, blk a6 = some k → w.heap.size + 2 ≤ k ∧ blk a ≠ some k
 ins : ∀ m ∈ xs, StIn wr m ∧ ∀ k, blk m.a = some k → blk a ≠ some k ∧ k ≠ w.heap.size
 same : xs.map stC = p.ss.map stC
 upd : Upd (fun _ => False) w wr
theorem own0 {w : World} {base : Nat} {e : TypeId} {size n c : Nat} {a : Option Addr} {xs : List Value} (h : w.ownsRow base e size (.slice a n c) n xs) : w.ownsRow 0 e size (.slice a n c) n xs := by
 refine ⟨h.1, ?_⟩
 rcases h.2 with h' | ⟨g, cap, cur, h', _, hr⟩
 ·exact .inl h'
 ·exact .inr ⟨g, cap, cur, h', Nat.zero_le _, hr⟩
theorem flat_set (xs : List St) (j : Nat) (m : St) (v : Value) (hj : j < xs.length) (hm : stV m = [.int .i64 (xs[j]).com, v]) : (xs.flatMap stV).set (j * 2 + 1) v = (xs.set j m).flatMap stV := by
 induction xs generalizing j with
 | nil => cases hj
 | cons x r ih =>
  cases j with
  | zero =>
   simp only [List.flatMap_cons, List.set_cons_zero, List.getElem_cons_zero] at hm ⊢
   rw [hm]
   rfl
  | succ j =>
   simp only [List.flatMap_cons, List.set_cons_succ, List.getElem_cons_succ, List.length_cons] at hm hj ⊢
   rw [← ih j (by omega) hm]
   rw [show (j + 1) * 2 + 1 = (stV x).length + (j * 2 + 1) from by rw [stV_len]; omega, List.set_append]
   rw [if_neg (by omega), Nat.add_sub_cancel_left]
section
variable {w wr w2 : World} {p : Wt} {xs : List St} {a a6 : Option Addr} {c c6 g : Nat}
theorem Pq.other (h : Pq w p xs a c a6 c6 wr) (hU : Upd (fun _ => False) wr w2) : Pq w p xs a c a6 c6 w2 :=
 ⟨(hU.block _ (lt_of_heap h.row) (fun h => h)).trans h.row, (hU.block _ (lt_of_heap h.res) (fun h => h)).trans h.res, ownsRow_upd h.own hU (fun _ _ h => h), h.cl.upd hU (fun _ _ h => h), h.a6b, fun m hm => ⟨(h.ins m hm).1.upd hU, (h.ins m hm).2⟩, h.same, h.upd.trans hU⟩
theorem Pq.len (h : Pq w p xs a c a6 c6 wr) : xs.length = p.ss.length := by have := congrArg List.length h.same; simpa using this
theorem Pq.step (h : Pq w p xs (some ⟨g, 0, none⟩) c a6 c6 w2) (j : Nat) (x : St) (hx : xs[j]? = some x) (a' : Option Addr) (c' : Nat) (hf : Vw w2 a' x.fs.length c' 3 (x.fs.flatMap flV)) (hb : ∀ k, blk a' = some k → k ≠ g ∧ k ≠ w.heap.size) :
  Pq w p (xs.set j ⟨x.com, x.fs, a', c'⟩) (some ⟨g, 0, none⟩) c a6 c6 (w2.setCell ⟨g, j * 2 + 1, none⟩ (.slice a' x.fs.length c')) := by
 obtain ⟨hj, rfl⟩ := List.getElem?_eq_some_iff.1 hx
 have hst := Upd.setCell (S := fun k => k = g) w2 (p := ⟨g, j * 2 + 1, none⟩) rfl (.slice a' (xs[j]).fs.length c')
 have hg := h.own.lt g rfl
 have ho := (h.own.stored (j * 2 + 1) (.slice a' (xs[j]).fs.length c')).1
 rw [flat_set xs j ⟨(xs[j]).com, (xs[j]).fs, a', c'⟩ _ hj rfl] at ho
 have hin := fun m hm => (h.ins m hm).1
 refine ⟨(hst.block _ (lt_of_heap h.row) (by omega)).trans h.row, (hst.block _ (lt_of_heap h.res) (by omega)).trans h.res, ho, h.cl.upd hst (fun k hk e => (h.a6b k hk).2 (by rw [e]; rfl)), h.a6b, fun m hm => ?_, ?_, h.upd.next hst (fun i hi e => by omega)⟩
 ·rcases List.mem_or_eq_of_mem_set hm with hm | rfl
  ·exact ⟨st_stays _ _ _ m (h.ins m hm).1 hst (fun k hk e => ((h.ins m hm).2 k hk).1 (by rw [e]; rfl)), (h.ins m hm).2⟩
  ·have h0 := (h.ins _ (List.getElem_mem hj)).1
   exact ⟨⟨hf.upd hst (fun k hk e => (hb k hk).1 e), h0.p, h0.t⟩, fun k hk => ⟨fun e => (hb k hk).1 (Option.some.inj e).symm, (hb k hk).2⟩⟩
 ·rw [List.map_set, ← h.same]
  apply List.ext_getElem?
  intro i
  rw [List.getElem?_set]
  split
  ·rename_i e
   subst e
   simp [hj, stC]
  ·rfl
end
theorem LogX.rangeP [Inhabited RbT] {w : World} {lb : Nat} {g : Lx} {A : LA} (h : LogX w lb g A) : w.rangeAt lb 5 [.bool g.pd.on, .bool g.pd.re, .int .i64 g.pd.src, .int .i64 g.pd.dst, .slice g.pd.sa g.pd.ss.length g.pd.sc, .int .i64 g.pd.com, .slice g.pd.ca g.pd.cs.length g.pd.cc] := by
 intro j u hu
 have hr : w.cell? ⟨lb, 5 + j, none⟩ = some u := by
  rw [cell_of_row _ _ _ _ _ _ h.row]
  match j, hu with
  | 0, hu | 1, hu | 2, hu | 3, hu | 4, hu | 5, hu | 6, hu => exact hu
  | j + 7, hu => simp at hu
 exact hr
set_option maxHeartbeats 8000000 in
theorem mPending_any [Inhabited RbT] (g : Lx) (A : LA) (lb : Nat) (w : World) (h : LogX w lb g A) (h1 : g.pd.ss.length ≤ 1000000000) (h2 : g.pd.cs.length ≤ 1000000000) (h3 : ∀ m ∈ g.pd.ss, m.fs.length ≤ 1000000000) :
  Calls Tryz.prog 23 #[.pointer (some ⟨lb, 0, none⟩)] w (PendC w g.pd) := by
 have hlt := h.lt
 have hU1 := Upd.alloc (fun _ => False) w (.cells pendA 30)
 have hb0 := heap_alloc_new w (.cells pendA 30)
 have hr := (h.other hU1).rangeP
 have hpw := h.pw
 obtain ⟨rr, fs, cs0, top, ds, p, n⟩ := g
 dsimp only at hr hpw h1 h2 h3 ⊢
 obtain ⟨p0, hp0⟩ : ∃ p0, p0 = p := ⟨_, rfl⟩
 have HP0 := Lib.hid hp0
 have HPW : Hid (WtIn w p0 ∧ WtBl (Bd w lb) p0) := Lib.hid (by rw [hp0]; exact hpw)
 have HB : Hid (p0.ss.length ≤ 1000000000 ∧ p0.cs.length ≤ 1000000000 ∧ (∀ m ∈ p0.ss, m.fs.length ≤ 1000000000)) := Lib.hid (by rw [hp0]; exact ⟨h1, h2, h3⟩)
 rw [← hp0]
 clear hp0 hpw h1 h2 h3 h
 obtain ⟨on, re, src, dst, sa, sc, ss, com, ca, cc, cs⟩ := p
 dsimp only at hr
 have HU1 := Lib.hid (And.intro hU1 (And.intro hb0 hr))
 clear hU1 hb0 hr
 go_enter Tryz.func23, Tryz.ntmps23
 go_upto_region 3 with (fail)
 have hpA : pendA = #[.bool false, .bool false, .int .i64 0, .int .i64 0, .slice none 0 0, .int .i64 0, .slice none 0 0] := rfl
 rw [hpA] at HU1
 have HPA := Lib.hid hpA
 clear hpA
 have hy0 : World.heap (w.alloc (.cells #[.bool false, .bool false, .int .i64 0, .int .i64 0, .slice none 0 0, .int .i64 0, .slice none 0 0] 30)) = World.heap (w.alloc (.cells #[.bool false, .bool false, .int .i64 0, .int .i64 0, .slice none 0 0, .int .i64 0, .slice none 0 0] 30)) := rfl
 have hsz : (w.alloc (.cells #[.bool false, .bool false, .int .i64 0, .int .i64 0, .slice none 0 0, .int .i64 0, .slice none 0 0] 30)).heap.size = w.heap.size + 1 := by simp
 have HSZ := Lib.hid hsz
 clear hsz hy0
 generalize w.alloc (.cells #[.bool false, .bool false, .int .i64 0, .int .i64 0, .slice none 0 0, .int .i64 0, .slice none 0 0] 30) = y0 at *
 have hr := HU1.out.2.2
 go_upto_region 4 with (refine wpList_load_mid rfl 30 (.tmp 10) rfl lb 5 rfl [.bool on, .bool re, .int .i64 src, .int .i64 dst, .slice sa ss.length sc, .int .i64 com, .slice ca cs.length cc] _ hr Tryz.underlying30 rfl infoPend5 ?_)
 clear hr
 have hUa := Upd.alloc (fun _ => False) y0 (.cells #[.bool on, .bool re, .int .i64 src, .int .i64 dst, .slice sa ss.length sc, .int .i64 com, .slice ca cs.length cc] 30)
 have hra := heap_alloc_new y0 (.cells #[.bool on, .bool re, .int .i64 src, .int .i64 dst, .slice sa ss.length sc, .int .i64 com, .slice ca cs.length cc] 30)
 rw [HSZ.out] at hra
 have hres := (hUa.block _ (lt_of_heap HU1.out.2.1) (fun h => h)).trans HU1.out.2.1
 have hUd := Upd.drew (fun _ => False) (y0.alloc (.cells #[.bool on, .bool re, .int .i64 src, .int .i64 dst, .slice sa ss.length sc, .int .i64 com, .slice ca cs.length cc] 30))
 have hwd := HU1.out.1.trans (hUa.trans hUd)
 have hsz2 : (y0.alloc (.cells #[.bool on, .bool re, .int .i64 src, .int .i64 dst, .slice sa ss.length sc, .int .i64 com, .slice ca cs.length cc] 30)).heap.size = w.heap.size + 2 := by have := HSZ.out; simp; omega
 have hsz3 : (y0.alloc (.cells #[.bool on, .bool re, .int .i64 src, .int .i64 dst, .slice sa ss.length sc, .int .i64 com, .slice ca cs.length cc] 30)).drew.heap.size = w.heap.size + 2 := hsz2
 have hra3 : (y0.alloc (.cells #[.bool on, .bool re, .int .i64 src, .int .i64 dst, .slice sa ss.length sc, .int .i64 com, .slice ca cs.length cc] 30)).drew.heap[w.heap.size + 1]? = some (.cells #[.bool on, .bool re, .int .i64 src, .int .i64 dst, .slice sa ss.length sc, .int .i64 com, .slice ca cs.length cc] 30) := hra
 have hres3 : (y0.alloc (.cells #[.bool on, .bool re, .int .i64 src, .int .i64 dst, .slice sa ss.length sc, .int .i64 com, .slice ca cs.length cc] 30)).drew.heap[w.heap.size]? = some (.cells #[.bool false, .bool false, .int .i64 0, .int .i64 0, .slice none 0 0, .int .i64 0, .slice none 0 0] 30) := hres
 have HX := Lib.hid (And.intro hra3 (And.intro hres3 (And.intro hwd hsz3)))
 have HPI : Hid (WtIn (y0.alloc (.cells #[.bool on, .bool re, .int .i64 src, .int .i64 dst, .slice sa ss.length sc, .int .i64 com, .slice ca cs.length cc] 30)).drew p0) := Lib.hid (HPW.out.1.upd hwd)
 obtain ⟨B3, hB3⟩ : ∃ B, B = w.heap.size + 1 := ⟨_, rfl⟩
 have HB3 := Lib.hid hB3
 have hpt : w.heap.size + 1 = B3 := hB3.symm
 rw [hpt] at HX
 have hq6 : (y0.alloc (.cells #[.bool on, .bool re, .int .i64 src, .int .i64 dst, .slice sa ss.length sc, .int .i64 com, .slice ca cs.length cc] 30)).drew.cell? ⟨B3, 6, none⟩ = some (.slice ca cs.length cc) := by rw [cell_of_row _ _ _ _ _ _ HX.out.1]; rfl
 have hq4 : (y0.alloc (.cells #[.bool on, .bool re, .int .i64 src, .int .i64 dst, .slice sa ss.length sc, .int .i64 com, .slice ca cs.length cc] 30)).drew.cell? ⟨B3, 4, none⟩ = some (.slice sa ss.length sc) := by rw [cell_of_row _ _ _ _ _ _ HX.out.1]; rfl
 have hB3' : y0.heap.size = B3 := by rw [HSZ.out, hB3]
 rw [hB3']
 clear hUa hra hres hUd hwd hsz2 hsz3 hra3 hres3 hB3 hpt hB3'
 refine wp_region_plan_last [([0, 3, 4], 1), ([], 2), ([6], 5), ([], 7), ([8], 9)] [] (fun w' => w'.cell? ⟨B3, 6, none⟩ = some (.slice ca cs.length cc)) (by kernel_rfl) (by kernel_rfl) hq6 ?_
 generalize (y0.alloc (.cells #[.bool on, .bool re, .int .i64 src, .int .i64 dst, .slice sa ss.length sc, .int .i64 com, .slice ca cs.length cc] 30)).drew = y2 at *
 iterate 3
  refine plan_take (v := ?_) rfl rfl (fun w' hS => ?_) ?_
  rotate_left
  ·skip
   go_simp; try with_reducible rfl
  simp only [putL]
 refine plan_act rfl (fun K1 hK1 => ?_)
 go_wp2_with fail
 refine hK1.out _ _ (.inr hq6) ?_
 refine plan_act rfl (fun K2 hK2 => ?_)
 have hcs := cloneSe_any sa sc ss y2 (by have h := HPI.out.sv; rw [HP0.out] at h; exact h) (by have h := HB.out.1; rw [HP0.out] at h; exact h)
 clear hq4
 go_wp2_with fail
 refine hcs.mono ?_
 unfold ClonedSe
 rintro e w3 ⟨a4, c4, rfl, hown4, hU3⟩
 have hq6' : w3.cell? ⟨B3, 6, none⟩ = some (.slice ca cs.length cc) := (hU3.cell (World.block_lt_of_cell? _ _ hq6) (fun h => h)).trans hq6
 have HO4 := Lib.hid (And.intro hown4 hU3)
 clear hcs hown4 hU3 hq6
 go_wp2_with fail
 refine hK2.out _ _ (.inr hq6') ?_
 iterate 1
  refine plan_take (v := ?_) rfl rfl (fun w' hS => ?_) ?_
  rotate_left
  ·skip
   go_simp; try with_reducible rfl
  simp only [putL]
 refine plan_act rfl (fun K5 hK5 => ?_)
 have hcs := cloneCl_any ca cc cs w3 (by have h := (HPI.out.upd HO4.out.2).cv; rw [HP0.out] at h; exact h) (by have h := HB.out.2.1; rw [HP0.out] at h; exact h)
 go_wp2_with fail
 refine hcs.mono ?_
 unfold ClonedCl
 rintro e w4 ⟨a6, c6, rfl, hown6, hU4⟩
 have hq6 : w4.cell? ⟨B3, 6, none⟩ = some (.slice ca cs.length cc) := (hU4.cell (World.block_lt_of_cell? _ _ hq6') (fun h => h)).trans hq6'
 have HO6 := Lib.hid (And.intro hown6 hU4)
 clear hcs hown6 hU4 hq6'
 go_wp2_with fail
 refine hK5.out _ _ (.inr hq6) ?_
 refine plan_act rfl (fun K7 hK7 => ?_)
 have hrow4 := ((HO4.out.2.trans HO6.out.2).block _ (lt_of_heap HX.out.1) (fun h => h)).trans HX.out.1
 have hres4 := ((HO4.out.2.trans HO6.out.2).block _ (lt_of_heap HX.out.2.1) (fun h => h)).trans HX.out.2.1
 have q4 : w4.cell? ⟨B3, 4, none⟩ = some (.slice sa ss.length sc) := by rw [cell_of_row _ _ _ _ _ _ hrow4]; rfl
 have f4 : w4.frozen? ⟨B3, 4, none⟩ = false := free_row hrow4
 have HR4 := Lib.hid (And.intro hrow4 hres4)
 clear hrow4 hres4
 go_wp2_with fail
 have hrow5 := setCell_heap 4 (.slice a4 ss.length c4) HR4.out.1
 have hq65 : (w4.setCell ⟨B3, 4, none⟩ (.slice a4 ss.length c4)).cell? ⟨B3, 6, none⟩ = some (.slice ca cs.length cc) := by rw [cell_of_row _ _ _ _ _ _ hrow5]; rfl
 refine hK7.out _ _ (.inr hq65) ?_
 have HU5 := Lib.hid (Upd.setCell (S := fun k => k = B3) w4 (p := ⟨B3, 4, none⟩) rfl (.slice a4 ss.length c4))
 have HR5 := Lib.hid hrow5
 clear q4 f4 hq6 hrow5
 generalize w4.setCell ⟨B3, 4, none⟩ (.slice a4 ss.length c4) = w5 at *
 iterate 1
  refine plan_take (v := ?_) rfl rfl (fun w' hS => ?_) ?_
  rotate_left
  ·skip
   go_simp; try with_reducible rfl
  simp only [putL]
 refine plan_act rfl (fun K9 hK9 => ?_)
 have f6 : w5.frozen? ⟨B3, 6, none⟩ = false := free_row HR5.out
 go_wp2_with fail
 refine hK9.out _ _ (.inl rfl) ?_
 have hrow6 := setCell_heap 6 (.slice a6 cs.length c6) HR5.out
 have HU6 := Lib.hid (Upd.setCell (S := fun k => k = B3) w5 (p := ⟨B3, 6, none⟩) rfl (.slice a6 cs.length c6))
 have HR6 := Lib.hid hrow6
 clear f6 hq65 hrow6
 generalize w5.setCell ⟨B3, 6, none⟩ (.slice a6 cs.length c6) = w6 at *
 refine plan_end ?_
 have hww : Upd (fun _ => False) w w6 := ((HX.out.2.2.1.trans (HO4.out.2.trans HO6.out.2)).next HU5.out (fun i hi e => by have := HB3.out; omega)).next HU6.out (fun i hi e => by have := HB3.out; omega)
 have hP : Pq w p0 ss a4 c4 a6 c6 w6 := by
  have l4 := HO4.out.1.lt
  have l6 := HO6.out.1.lt
  have z := HX.out.2.2.2
  have z3 := HO4.out.2.size
  have hb := HB3.out
  have e1 : p0.ss = ss := by rw [HP0.out]
  have e2 : p0.cs = cs := by rw [HP0.out]
  have own4 : w6.ownsRow y2.heap.size 80 2 (.slice a4 ss.length c4) ss.length (ss.flatMap stV) := ownsRow_upd (ownsRow_upd (ownsRow_upd HO4.out.1 HO6.out.2 (fun _ _ h => h)) HU5.out (fun k hk e => by have := l4 k hk; omega)) HU6.out (fun k hk e => by have := l4 k hk; omega)
  have own6 : w6.ownsRow w3.heap.size 100 3 (.slice a6 cs.length c6) cs.length (cs.flatMap clV) := ownsRow_upd (ownsRow_upd HO6.out.1 HU5.out (fun k hk e => by have := l6 k hk; omega)) HU6.out (fun k hk e => by have := l6 k hk; omega)
  rw [z] at own4
  refine ⟨?_, ?_, by rw [e1]; exact own4, by rw [e2]; exact Vw.of_own (own0 own6), fun k hk => ⟨?_, fun hk4 => ?_⟩, fun m hm => ⟨(HPW.out.1.upd hww).se m (by rw [e1]; exact hm), fun k hk => ⟨fun hk4 => ?_, ?_⟩⟩, by rw [e1], hww⟩
  ·rw [← hb, HR6.out, HP0.out]; rfl
  ·have := HR4.out.2
   rw [HPA.out]
   exact (HU6.out.block _ (lt_of_heap ((HU5.out.block _ (lt_of_heap this) (by omega)).trans this)) (by omega)).trans ((HU5.out.block _ (lt_of_heap this) (by omega)).trans this)
  ·have := l6 k ((own_blk _ _ _).trans hk); omega
  ·have h1 := l6 k ((own_blk _ _ _).trans hk); have h2 := l4 k ((own_blk _ _ _).trans hk4); omega
  ·have h1 := HPW.out.2.e m (by rw [e1]; exact hm) k hk
   have h2 := l4 k ((own_blk _ _ _).trans hk4)
   have := h1.2
   omega
  ·have h1 := HPW.out.2.e m (by rw [e1]; exact hm) k hk
   have := h1.2
   omega
 have HP := Lib.hid hP
 have HFS : Hid (∀ m ∈ ss, m.fs.length ≤ 1000000000) := Lib.hid (by have h := HB.out.2.2; rw [HP0.out] at h; exact h)
 have HSS : Hid (p0.ss = ss) := Lib.hid (by rw [HP0.out])
 have hSn : ss.length ≤ 1000000000 := by have h := HB.out.1; rw [HP0.out] at h; exact h
 have q4 : w6.cell? ⟨B3, 4, none⟩ = some (.slice a4 ss.length c4) := by rw [HB3.out, cell_of_row _ _ _ _ _ _ hP.row, ← HSS.out]; rfl
 clear hP hww HX HO4 HO6 HU5 HU6 HR4 HR5 HR6 HPI HU1 HB
 go_wp2_with fail
 go_loopw [23] (fun i wr => ∃ (j : Nat) (xs : List St), j ≤ ss.length ∧ i = .int .i64 (j : Int) ∧ Hid (Pq w p0 xs a4 c4 a6 c6 wr)) (fun i _ => ss.length - (intOf i).toNat)
 case atStart => exact ⟨0, ss, Nat.zero_le _, rfl, HP⟩
 case round =>
  obtain ⟨j, xs, hj, rfl, HQ⟩ := hrel
  clear q4 HP
  have hr3 := HQ.out.row
  rw [← HB3.out] at hr3
  have q4 : wr.cell? ⟨B3, 4, none⟩ = some (.slice a4 ss.length c4) := by rw [cell_of_row _ _ _ _ _ _ hr3, ← HSS.out]; rfl
  clear hr3
  by_cases hlt : j < ss.length
  ·have hI : (j : Int) < (ss.length : Int) := by omega
   have hI0 : (0 : Int) ≤ (j : Int) := by omega
   have hjx : j < xs.length := by have := HQ.out.len; rw [HSS.out] at this; omega
   obtain ⟨g, rfl⟩ : ∃ g, a4 = some ⟨g, 0, none⟩ := by
    rcases HQ.out.own.2 with ⟨_, h0⟩ | ⟨g, cap, cur, he, _⟩
    ·rw [HSS.out] at h0; omega
    ·simp only [Value.slice.injEq] at he
     exact ⟨g, he.1⟩
   obtain ⟨x, hx⟩ : ∃ x, xs[j]? = some x := ⟨_, List.getElem?_eq_getElem hjx⟩
   have hxj : xs[j] = x := by rw [List.getElem?_eq_getElem hjx] at hx; exact Option.some.inj hx
   have hel : (xs.flatMap stV)[j * 2 + 1]? = some (.slice x.a x.fs.length x.c) := by rw [← hxj]; exact (st_get xs j 1 hjx (by decide)).trans rfl
   have qe : wr.cell? ⟨g, j * 2 + 1, none⟩ = some (.slice x.a x.fs.length x.c) := (HQ.out.own.cellAt (j * 2 + 1) (by rw [HSS.out]; omega)).trans hel
   have hfl : x.fs.length ≤ 1000000000 := by
    have h1 := congrArg (fun z => z[j]?) HQ.out.same
    rw [HSS.out] at h1
    simp only [List.getElem?_map, hx, List.getElem?_eq_getElem hlt, Option.map_some, Option.some.injEq, stC, Prod.mk.injEq] at h1
    rw [h1.2]
    exact HFS.out _ (List.getElem_mem hlt)
   have hin := (HQ.out.ins x (List.mem_of_getElem? hx)).1
   have hcl := cloneFi_any x.a x.c x.fs wr.drew (hin.upd (Upd.drew _ _)).v hfl
   have hstep := fun (w2 : World) (hU : Upd (fun _ => False) wr w2) => (HQ.out.other hU).step j x hx
   have HST := Lib.hid hstep
   have hgl := HQ.out.own.lt g rfl
   have HGL := Lib.hid hgl
   clear hel hfl hin hstep hgl hx hxj hjx
   go_upto_region 8 with (fail)
   have hS0 : wr.drew.cell? ⟨B3, 4, none⟩ = some (.slice (some ⟨g, 0, none⟩) ss.length c4) ∧ wr.drew.cell? ⟨g, j * 2 + 1, none⟩ = some (.slice x.a x.fs.length x.c) := ⟨q4, qe⟩
   refine wp_region_plan_last [([0, 1, 2, 3, 4, 5, 6, 7, 8], 9), ([10, 11], 12)] [] (fun w' => w'.cell? ⟨B3, 4, none⟩ = some (.slice (some ⟨g, 0, none⟩) ss.length c4) ∧ w'.cell? ⟨g, j * 2 + 1, none⟩ = some (.slice x.a x.fs.length x.c)) (by kernel_rfl) (by kernel_rfl) hS0 ?_
   iterate 9
    refine plan_take (v := ?_) rfl rfl (fun w' hS => ?_) ?_
    rotate_left
    ·skip
     go_simp; try with_reducible rfl
    simp only [putL]
   refine plan_act rfl (fun K9 hK9 => ?_)
   go_wp2_with fail
   refine hcl.mono ?_
   unfold ClonedFi
   rintro e w2 ⟨a', c', rfl, hown, hU⟩
   have hS2 : w2.cell? ⟨B3, 4, none⟩ = some (.slice (some ⟨g, 0, none⟩) ss.length c4) ∧ w2.cell? ⟨g, j * 2 + 1, none⟩ = some (.slice x.a x.fs.length x.c) :=
    ⟨(hU.cell (World.block_lt_of_cell? _ _ hS0.1) (fun h => h)).trans hS0.1, (hU.cell (World.block_lt_of_cell? _ _ hS0.2) (fun h => h)).trans hS0.2⟩
   have hlt' := hown.lt
   have HN := Lib.hid (HST.out w2 ((Upd.drew _ _).trans hU) a' c' (Vw.of_own (own0 hown)) (fun k hk => by have h1 := hlt' k ((own_blk _ _ _).trans hk); have h2 := HGL.out.2; have h3 : wr.drew.heap.size = wr.heap.size := rfl; have h4 := lt_of_heap HQ.out.res; exact ⟨by omega, by omega⟩))
   have fe : w2.frozen? ⟨g, j * 2 + 1, none⟩ = false := (HQ.out.other ((Upd.drew _ _).trans hU)).own.frozenAt (j * 2 + 1)
   clear hown hU hlt' hcl
   go_wp2_with fail
   refine hK9.out _ _ (.inr hS2) ?_
   iterate 2
    refine plan_take (v := ?_) rfl rfl (fun w' hS => ?_) ?_
    rotate_left
    ·skip
     go_simp; try with_reducible rfl
    simp only [putL]
   refine plan_act rfl (fun K12 hK12 => ?_)
   have qe2 := hS2.2
   go_wp2_with fail
   refine hK12.out _ _ (.inl rfl) ?_
   refine plan_end ?_
   go_wp2_with fail
   go_roundw
   case rel => exact ⟨j + 1, _, by omega, by first | rfl | go_num, HN⟩
   case measure => simp [intOf]; omega
  ·obtain rfl : j = ss.length := by omega
   have hlen := HQ.out.len
   have hrow := HQ.out.row
   have hres := HQ.out.res
   have hsame := HQ.out.same
   have hq : pendR p0 a4 c4 a6 c6 = wtA ⟨p0.on, p0.re, p0.src, p0.dst, a4, c4, xs, p0.com, a6, c6, p0.cs⟩ := by unfold pendR wtA; rw [hlen]
   rw [hq, ← HB3.out] at hrow
   have HRO := Lib.hid (And.intro hrow (And.intro hres hsame))
   have HA5 := Lib.hid (And.intro (show (Tryz.prog.info? 30).map (·.size) = some (wtA ⟨p0.on, p0.re, p0.src, p0.dst, a4, c4, xs, p0.com, a6, c6, p0.cs⟩).size from by rw [infoPend]; rfl) (wtA_one ⟨p0.on, p0.re, p0.src, p0.dst, a4, c4, xs, p0.com, a6, c6, p0.cs⟩))
   have hUr := Upd.setRow (S := fun k => k = w.heap.size) wr (b := w.heap.size) rfl (wtA ⟨p0.on, p0.re, p0.src, p0.dst, a4, c4, xs, p0.com, a6, c6, p0.cs⟩)
   have HZ : Hid (WtIn (wr.setRow w.heap.size (wtA ⟨p0.on, p0.re, p0.src, p0.dst, a4, c4, xs, p0.com, a6, c6, p0.cs⟩)) ⟨p0.on, p0.re, p0.src, p0.dst, a4, c4, xs, p0.com, a6, c6, p0.cs⟩ ∧ Upd (fun _ => False) w (wr.setRow w.heap.size (wtA ⟨p0.on, p0.re, p0.src, p0.dst, a4, c4, xs, p0.com, a6, c6, p0.cs⟩))) := by
    have ho := HQ.out.own
    rw [← hlen] at ho
    have hl := ho.lt
    refine Lib.hid ⟨⟨(Vw.of_own (own0 ho)).upd hUr (fun k hk e => by have := hl k ((own_blk _ _ _).trans hk); omega), fun m hm => st_stays _ _ _ m (HQ.out.ins m hm).1 hUr (fun k hk e => ((HQ.out.ins m hm).2 k hk).2 e), HQ.out.cl.upd hUr (fun k hk e => by have := (HQ.out.a6b k hk).1; omega)⟩, HQ.out.upd.next hUr (fun i hi e => by omega)⟩
   have hone : Hid (pendA.size = 7) := Lib.hid rfl
   have hs7 : Hid ((wtA ⟨p0.on, p0.re, p0.src, p0.dst, a4, c4, xs, p0.com, a6, c6, p0.cs⟩).size = 7) := Lib.hid rfl
   clear hlen hq hrow hsame hUr
   generalize hAA : wtA ⟨p0.on, p0.re, p0.src, p0.dst, a4, c4, xs, p0.com, a6, c6, p0.cs⟩ = AA at *
   have HAA := Lib.hid hAA
   clear hAA
   have hvar := HRO.out.1
   go_wp2_with first
    | refine wpList_load_row rfl 30 (.tmp 3) rfl B3 AA 30 (0, 0) _ rfl hvar Tryz.underlying30 rfl HA5.out.1 ?_
    | refine wpList_store_row rfl 30 (.tmp 2) (.tmp 39) rfl w.heap.size AA _ 30 rfl rfl hres HA5.out.1 (by rw [hs7.out]; rfl) HA5.out.2 ?_
   have hrw := setRow_heap _ _ _ AA _ _ hres
   exact ret_row rfl w.heap.size AA 30 (0, 0) _ rfl hrw Tryz.underlying30 rfl HA5.out.1 rfl ⟨⟨p0.on, p0.re, p0.src, p0.dst, a4, c4, xs, p0.com, a6, c6, p0.cs⟩, by rw [HAA.out], rfl, by unfold wtC; rw [HRO.out.2.2], HZ.out.1, HZ.out.2⟩
def g0 : Lx := ⟨[], [], [], 0, [], wt0, 0⟩
theorem logX_new [Inhabited RbT] {w : World} {lb : Nat} (h : LogW w lb ⟨[], [], [], 0, [], 0⟩ ⟨none, 0, none, 0, none, 0, none, 0⟩) (hrl : ∀ q, rbP q → q < w.heap.size ∧ q ≠ lb) : LogX w lb g0 ⟨none, 0, none, 0, none, 0, none, 0⟩ :=
 ⟨h.row, Vw.nl _ _, Vw.nl _ _, Vw.nl _ _, Vw.nl _ _, (fun q e => by cases e), (fun q e => by cases e), (fun q e => by cases e), (fun q e => by cases e), (fun r hr => by cases hr), ⟨wt0_in _, wt0_bl _⟩, hrl⟩
section
variable {w : World} {lb : Nat} {g : Lx} {A : LA}
theorem mAtX [Inhabited RbT] (h : LogX w lb g A) (h0 : 0 ≤ g.top) (h1 : g.top ≤ 100000) : Calls Tryz.prog 24 #[.pointer (some ⟨lb, 0, none⟩)] w fun e w' => e = .returned (.int .i64 (g.top - 1)) ∧ w = w' := by
 have q := h.c3
 have hw : IntKind.i64.wrap (g.top - 1) = g.top - 1 := IntWalk.i64_in _ (by omega)
 clear h
 go_enter Tryz.func24, Tryz.ntmps24
 go_wp2_with fail
 go_ret
 exact ⟨rfl, rfl⟩
theorem mRecordsX [Inhabited RbT] (h : LogX w lb g A) : Calls Tryz.prog 25 #[.pointer (some ⟨lb, 0, none⟩)] w fun e w' => e = .returned (.int .i64 g.n) ∧ w = w' := by
 have q := h.c12
 clear h
 go_enter Tryz.func25, Tryz.ntmps25
 go_wp2_with fail
 go_ret
 exact ⟨rfl, rfl⟩
end
def rt0 : Rt := ⟨0, none, 0, [], none, 0, [], none, 0, [], 0⟩
theorem fs_100 {y : Wt} (h : waitBC (wtC y) = true) : y.ss.length ≤ 1000000000 ∧ y.cs.length ≤ 1000000000 ∧ (∀ m ∈ y.ss, m.fs.length ≤ 1000000000) := by
 unfold waitBC wtC at h
 simp only [Bool.and_eq_true, decide_eq_true_eq, Bool.not_eq_true', List.any_eq_false, List.length_map] at h
 obtain ⟨_, _, _, h4, h5, h6, _⟩ := h
 refine ⟨by omega, by omega, fun m hm => ?_⟩
 have := h6 (stC m) (List.mem_map.2 ⟨m, hm, rfl⟩)
 unfold badSC stC rightT at this
 simp only [Bool.or_eq_true, Bool.not_eq_true', not_or, Bool.not_eq_false, Bool.and_eq_true, decide_eq_true_eq] at this
 omega
/-- Where the law stands: what is kept between its records. -/
structure Wst [Inhabited RbT] (y1 w : World) (lb : Nat) (g : Lx) (A : LA) (a5 : Option Addr) (c5 : Nat) (l5 : List UInt8) (a6 : Option Addr) (c6 : Nat) (l6 : List UInt8) (a7 : Option Addr) (c7 : Nat) (l7 : List UInt8) : Prop where
 upd : Upd (fun _ => False) y1 w
 log : LogX w lb g A
 v5 : Vw w a5 l5.length c5 1 (bvs l5)
 v6 : Vw w a6 l6.length c6 1 (bvs l6)
 v7 : Vw w a7 l7.length c7 1 (bvs l7)
 k5 : ∀ g, blk a5 = some g → g ≠ lb
 k6 : ∀ g, blk a6 = some g → g ≠ lb
 k7 : ∀ g, blk a7 = some g → g ≠ lb
 n : y1.heap.size ≤ lb
section
variable {y1 w w' : World} {lb : Nat} {g g' : Lx} {A A' : LA} {a5 a6 a7 : Option Addr} {c5 c6 c7 : Nat} {l5 l6 l7 : List UInt8}
theorem Wst.put [Inhabited RbT] (h : Wst y1 w lb g A a5 c5 l5 a6 c6 l6 a7 c7 l7) (hL : LogX w' lb g' A') (hU : Upd (fun q => q = lb) w w') : Wst y1 w' lb g' A' a5 c5 l5 a6 c6 l6 a7 c7 l7 :=
 ⟨h.upd.next hU (fun i hi e => by have := h.n; omega), hL, h.v5.upd hU (fun g hg e => h.k5 g hg e), h.v6.upd hU (fun g hg e => h.k6 g hg e), h.v7.upd hU (fun g hg e => h.k7 g hg e), h.k5, h.k6, h.k7, h.n⟩
end
end Go.Proofs.YtccejkikphpnfaaGreatDoor
