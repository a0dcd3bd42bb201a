
/- The log's block in general; addRoot. -/
import Derived.Test.YtccejkikphpnfaaGreatDoorQ20
namespace Go.Proofs.YtccejkikphpnfaaGreatDoor
set_option linter.unusedSimpArgs false
set_option linter.unusedVariables false
set_option maxRecDepth 100000
open Go.ChangeShapes Go.WideShapes Go.ChangeAt Go.RowKit
section
variable {P : Program} (w : World)
theorem run_appV2 (t tx ty e : TypeId) (i : TypeInfo) (z : Value) (size bytes : Nat) (ht : P.underlying t = some (.slice e)) (hi : P.info? e = some i) (hz : i.zero = some z)
  (hsize : i.size = size) (hby : i.bytes = bytes) (hzs : z.cells.size = size)
  (a : Option Addr) (n : Nat) (xs : List Value) (hv : Vw w a n n size xs) (x : Value) (m : Nat) (news : List Value) (hs : Src P size tx x m news w)
  (h63 : n + m ≤ maxLen) (hbytes : (n + m) * bytes ≤ 140737488355328) :
  ∃ a' c' w', (Builtin.append_ #[t, tx] ty #[.slice a n n, x]).run P w = .ok (.slice a' (n + m) c') w' ∧ Vw w' a' (n + m) c' size (xs ++ news) ∧ Upd (fun _ => False) w w' ∧ (∀ g, blk a' = some g → blk a = some g ∨ (w.heap.size ≤ g ∧ g < w'.heap.size)) := by
 subst hsize
 subst hby
 have hsmall : ((n + m : Nat) : Int) ≤ 9223372036854775807 := by simp only [maxLen] at h63; omega
 have hlen : (xs ++ news).length = (n + m) * i.size := by rw [List.length_append, hv.len, hs.newsLen, Nat.add_mul]
 by_cases hm : m = 0
 ·subst hm
  have hn : news = [] := List.eq_nil_of_length_eq_zero (by simpa using hs.newsLen)
  subst hn
  refine ⟨a, n, w, ?_, by rw [List.append_nil]; exact hv, Upd.refl _ _, fun g e => .inl e⟩
  cases a with
  | none => rcases hs.kind with ⟨e', hk⟩ | hk <;> simp [Builtin.append_, run_underlying ht, run_underlying hk, sizeOf, typeInfo, hi, hs.len, hs.cells]
  | some b => rcases hs.kind with ⟨e', hk⟩ | hk <;> simp [Builtin.append_, run_underlying ht, run_underlying hk, sizeOf, typeInfo, hi, hs.len, hs.cells, storeCells]
 ·have hold : (Builtin.firstCells i.size n (.slice a n n)).run P w.drew = .ok xs.toArray w.drew := by
   cases a with
   | none =>
    have hn : n = 0 := hv.nil rfl
    subst hn
    have hx : xs = [] := List.eq_nil_of_length_eq_zero (by simpa using hv.len)
    subst hx
    exact run_firstCells_none w.drew i.size 0 0 0
   | some b => exact run_firstCells_some w.drew i.size n b n n xs hv.len (fun j u hu => hv.cell b rfl j u hu)
  have hge := grownCap_ge w (n + m) n e
  have hcm : grownCap w (n + m) n e ≤ maxLen := grownCap_le_maxLen w (n + m) n e h63
  have hown : (w.drew.alloc (.cells ((xs ++ news).toArray ++ Builtin.zeroCells z.cells (grownCap w (n + m) n e - (n + m))) e)).ownsRow 0 e i.size
    (.slice (some ⟨w.heap.size, 0, none⟩) (n + m) (grownCap w (n + m) n e)) (n + m) (xs ++ news) := by
   refine ⟨hlen, .inr ⟨w.heap.size, _, _, rfl, Nat.zero_le _, heap_alloc_new w.drew _, hge, hcm, ?_, ?_⟩⟩
   ·simp only [Array.size_append, List.size_toArray, size_zeroCells, hzs, hlen, ← Nat.add_mul]
    congr 1
    omega
   ·simp only [Array.toList_append]
    rw [← hlen]
    exact List.take_left
  exact ⟨_, _, _, run_append_grow_src w t tx ty e i z ht hi hz a n n xs hold x m news hs (by omega) hsmall (growslice_fits (by omega) hbytes), Vw.of_own hown, (Upd.drew _ w).trans (Upd.alloc _ _ _), fun g e => .inr (by cases e; exact ⟨Nat.le_refl _, by simp⟩)⟩
theorem wpList_appV2 {ops : Array Oper} {rest : List Oper} {o : Oper} {ac : Act} {Q : Exit → Act → World → Prop} (hgd : o.guard = none) (s xo : Operand) (t tx : TypeId)
  (ho : o.op = .call { callee := .builtin .append, args := #[s, xo], argTypes := #[t, tx] })
  (e : TypeId) (i : TypeInfo) (z : Value) (size bytes : Nat) (ht : P.underlying t = some (.slice e)) (hi : P.info? e = some i) (hz : i.zero = some z)
  (hsize : i.size = size) (hby : i.bytes = bytes) (hzs : z.cells.size = size)
  (a : Option Addr) (n : Nat) (xs : List Value) (hev : ac.eval s = .slice a n n) (hv : Vw w a n n size xs) (x : Value) (m : Nat) (news : List Value) (hx : ac.eval xo = x) (hs : Src P size tx x m news w)
  (h63 : n + m ≤ maxLen) (hbytes : (n + m) * bytes ≤ 140737488355328)
  (h : ∀ a' c' w', Vw w' a' (n + m) c' size (xs ++ news) → Upd (fun _ => False) w w' → (∀ g, blk a' = some g → blk a = some g ∨ (w.heap.size ≤ g ∧ g < w'.heap.size)) → wpList P ops Q rest (ac.put o.dst (.slice a' (n + m) c')) w') : wpList P ops Q (o :: rest) ac w := by
 obtain ⟨a', c', w', hr, h2, h3, h4⟩ := run_appV2 (P := P) w t tx o.type e i z size bytes ht hi hz hsize hby hzs a n xs hv x m news hs h63 hbytes
 refine wpList_plain hgd fun K hK => ?_
 unfold Oper.wp execOp
 simp only [ho, resolve, invoke, builtin, Sem.run_bind, Sem.run_pure, Result.andThen_ok, List.map_toArray, List.map_cons, List.map_nil, hev, hx, hr]
 exact hK _ _ (h a' c' w' h2 h3 h4)
end
def rtV (r : Rt) : List Value := (rtA r).toList
theorem rtV_len (r : Rt) : (rtV r).length = 5 := rfl
structure Lx where
 rr : List Rt
 fs : List Int
 cs : List Ky
 top : Int
 ds : List Int
 pd : Wt
 n : Int
def logX (g : Lx) (A : LA) : Array Value := #[.slice A.ra g.rr.length A.rc, .slice A.fa g.fs.length A.fc, .slice A.ka g.cs.length A.kc, .int .i64 g.top, .slice A.da g.ds.length A.dc, .bool g.pd.on, .bool g.pd.re, .int .i64 g.pd.src, .int .i64 g.pd.dst, .slice g.pd.sa g.pd.ss.length g.pd.sc, .int .i64 g.pd.com, .slice g.pd.ca g.pd.cs.length g.pd.cc, .int .i64 g.n]
/-- Blocks in which the log has nothing. -/
structure RbT where
 p : Nat → Prop
def rbP [Inhabited RbT] (q : Nat) : Prop := (default : RbT).p q
/-- A block that is there, another one than lb, and none of the forbidden ones. -/
def Bd [Inhabited RbT] (w : World) (lb : Nat) (q : Nat) : Prop := q ≠ lb ∧ (q < w.heap.size ∧ ¬ rbP q)
theorem Bd.up [Inhabited RbT] {w w' : World} {lb q : Nat} (h : Bd w lb q) (hz : w.heap.size ≤ w'.heap.size) : Bd w' lb q := ⟨h.1, Nat.lt_of_lt_of_le h.2.1 hz, h.2.2⟩
structure LogX [Inhabited RbT] (w : World) (lb : Nat) (g : Lx) (A : LA) : Prop where
 row : w.heap[lb]? = some (.cells (logX g A) 105)
 rr : Vw w A.ra g.rr.length A.rc 5 (g.rr.flatMap rtV)
 fs : Vw w A.fa g.fs.length A.fc 1 (g.fs.map iv)
 cs : Vw w A.ka g.cs.length A.kc 32 (g.cs.flatMap kyV)
 ds : Vw w A.da g.ds.length A.dc 1 (g.ds.map iv)
 n1 : ∀ q, blk A.ra = some q → Bd w lb q
 n2 : ∀ q, blk A.fa = some q → Bd w lb q
 n3 : ∀ q, blk A.ka = some q → Bd w lb q
 n4 : ∀ q, blk A.da = some q → Bd w lb q
 re : ∀ r ∈ g.rr, RtIn w r ∧ RtBl (Bd w lb) r
 pw : WtIn w g.pd ∧ WtBl (Bd w lb) g.pd
 rl : ∀ q, rbP q → q < w.heap.size ∧ q ≠ lb
section
variable {w w' w8 : World} {lb : Nat} {g g' : Lx} {A A' : LA}
theorem LogX.lt [Inhabited RbT] (h : LogX w lb g A) : lb < w.heap.size := lt_of_heap h.row
/-- What changes nothing of it. -/
theorem LogX.updS [Inhabited RbT] {S : Nat → Prop} (h : LogX w lb g A) (hU : Upd S w w') (hl : ¬ S lb) (hS : ∀ q, Bd w lb q → ¬ S q) : LogX w' lb g A :=
 ⟨(hU.block lb h.lt hl).trans h.row, h.rr.upd hU (fun q hq => hS q (h.n1 q hq)), h.fs.upd hU (fun q hq => hS q (h.n2 q hq)), h.cs.upd hU (fun q hq => hS q (h.n3 q hq)), h.ds.upd hU (fun q hq => hS q (h.n4 q hq)),
  fun q hq => (h.n1 q hq).up hU.size, fun q hq => (h.n2 q hq).up hU.size, fun q hq => (h.n3 q hq).up hU.size, fun q hq => (h.n4 q hq).up hU.size,
  fun r hr => ⟨(h.re r hr).1.updS ((h.re r hr).2.mono hS) hU, (h.re r hr).2.mono (fun q hq => hq.up hU.size)⟩, ⟨h.pw.1.updS (h.pw.2.mono hS) hU, h.pw.2.mono (fun q hq => hq.up hU.size)⟩, fun q hq => ⟨Nat.lt_of_lt_of_le (h.rl q hq).1 hU.size, (h.rl q hq).2⟩⟩
theorem LogX.fresh [Inhabited RbT] (h : LogX w lb g A) {w' : World} {q : Nat} (h1 : w.heap.size ≤ q) (h2 : q < w'.heap.size) : Bd w' lb q := ⟨Nat.ne_of_gt (Nat.lt_of_lt_of_le h.lt h1), h2, fun hp => absurd (h.rl q hp).1 (Nat.not_lt.2 h1)⟩
theorem LogX.other [Inhabited RbT] (h : LogX w lb g A) (hU : Upd (fun _ => False) w w') : LogX w' lb g A := h.updS hU (fun h => h) (fun _ _ h => h)
theorem LogX.drew [Inhabited RbT] (h : LogX w lb g A) : LogX w.drew lb g A := h.other (Upd.drew _ _)
/-- A new row in its block. -/
theorem LogX.row' [Inhabited RbT] (h : LogX w lb g A) (hU : Upd (fun q => q = lb) w w8) (hrow : w8.heap[lb]? = some (.cells (logX g' A') 105))
  (h1 : Vw w8 A'.ra g'.rr.length A'.rc 5 (g'.rr.flatMap rtV)) (h2 : Vw w8 A'.fa g'.fs.length A'.fc 1 (g'.fs.map iv)) (h3 : Vw w8 A'.ka g'.cs.length A'.kc 32 (g'.cs.flatMap kyV)) (h4 : Vw w8 A'.da g'.ds.length A'.dc 1 (g'.ds.map iv))
  (m1 : ∀ q, blk A'.ra = some q → Bd w8 lb q) (m2 : ∀ q, blk A'.fa = some q → Bd w8 lb q) (m3 : ∀ q, blk A'.ka = some q → Bd w8 lb q) (m4 : ∀ q, blk A'.da = some q → Bd w8 lb q)
  (hre : ∀ r ∈ g'.rr, r ∈ g.rr ∨ (RtIn w8 r ∧ RtBl (Bd w8 lb) r)) (hpd : g'.pd = g.pd ∨ (WtIn w8 g'.pd ∧ WtBl (Bd w8 lb) g'.pd)) : LogX w8 lb g' A' := by
 refine ⟨hrow, h1, h2, h3, h4, m1, m2, m3, m4, fun r hr => ?_, ?_, fun q hq => ⟨Nat.lt_of_lt_of_le (h.rl q hq).1 hU.size, (h.rl q hq).2⟩⟩
 ·rcases hre r hr with e | e
  ·exact ⟨(h.re r e).1.updS ((h.re r e).2.mono (fun q hq => hq.1)) hU, (h.re r e).2.mono (fun q hq => hq.up hU.size)⟩
  ·exact e
 ·rcases hpd with e | e
  ·rw [e]; exact ⟨h.pw.1.updS (h.pw.2.mono (fun q hq => hq.1)) hU, h.pw.2.mono (fun q hq => hq.up hU.size)⟩
  ·exact e
theorem LogX.put [Inhabited RbT] (h : LogX w lb g A) (hU : Upd (fun _ => False) w w8) (j : Nat) (u : Value) (hc : (logX g A).setIfInBounds j u = logX g' A')
  (h1 : Vw w8 A'.ra g'.rr.length A'.rc 5 (g'.rr.flatMap rtV)) (h2 : Vw w8 A'.fa g'.fs.length A'.fc 1 (g'.fs.map iv)) (h3 : Vw w8 A'.ka g'.cs.length A'.kc 32 (g'.cs.flatMap kyV)) (h4 : Vw w8 A'.da g'.ds.length A'.dc 1 (g'.ds.map iv))
  (m1 : ∀ q, blk A'.ra = some q → Bd w8 lb q) (m2 : ∀ q, blk A'.fa = some q → Bd w8 lb q) (m3 : ∀ q, blk A'.ka = some q → Bd w8 lb q) (m4 : ∀ q, blk A'.da = some q → Bd w8 lb q)
  (hre : ∀ r ∈ g'.rr, r ∈ g.rr ∨ (RtIn w8 r ∧ RtBl (Bd w8 lb) r)) (hpd : g'.pd = g.pd) :
  LogX (w8.setCell ⟨lb, j, none⟩ u) lb g' A' ∧ Upd (fun q => q = lb) w (w8.setCell ⟨lb, j, none⟩ u) := by
 have hst := Upd.setCell (S := fun q => q = lb) w8 (p := ⟨lb, j, none⟩) rfl u
 have h8 := h.other hU
 have hz := hst.size
 refine ⟨h8.row' hst (by rw [setCell_heap j u h8.row, hc]) (h1.upd hst (fun q hq => (m1 q hq).1)) (h2.upd hst (fun q hq => (m2 q hq).1)) (h3.upd hst (fun q hq => (m3 q hq).1)) (h4.upd hst (fun q hq => (m4 q hq).1))
  (fun q hq => (m1 q hq).up hz) (fun q hq => (m2 q hq).up hz) (fun q hq => (m3 q hq).up hz) (fun q hq => (m4 q hq).up hz) (fun r hr => (hre r hr).imp id (fun e => ⟨e.1.updS (e.2.mono (fun q hq => hq.1)) hst, e.2.mono (fun q hq => hq.up hz)⟩)) (.inl hpd), (hU.mono (fun _ _ h => h.elim)).trans hst⟩
theorem LogX.free [Inhabited RbT] (h : LogX w lb g A) (j : Nat) : w.frozen? ⟨lb, j, none⟩ = false := free_row h.row
theorem LogX.c0 [Inhabited RbT] (h : LogX w lb g A) : w.cell? ⟨lb, 0, none⟩ = some (.slice A.ra g.rr.length A.rc) := by rw [cell_of_row _ _ _ _ _ _ h.row]; rfl
theorem LogX.c1 [Inhabited RbT] (h : LogX w lb g A) : w.cell? ⟨lb, 1, none⟩ = some (.slice A.fa g.fs.length A.fc) := by rw [cell_of_row _ _ _ _ _ _ h.row]; rfl
theorem LogX.c2 [Inhabited RbT] (h : LogX w lb g A) : w.cell? ⟨lb, 2, none⟩ = some (.slice A.ka g.cs.length A.kc) := by rw [cell_of_row _ _ _ _ _ _ h.row]; rfl
theorem LogX.c3 [Inhabited RbT] (h : LogX w lb g A) : w.cell? ⟨lb, 3, none⟩ = some (.int .i64 g.top) := by rw [cell_of_row _ _ _ _ _ _ h.row]; rfl
theorem LogX.c4 [Inhabited RbT] (h : LogX w lb g A) : w.cell? ⟨lb, 4, none⟩ = some (.slice A.da g.ds.length A.dc) := by rw [cell_of_row _ _ _ _ _ _ h.row]; rfl
theorem LogX.c5 [Inhabited RbT] (h : LogX w lb g A) : w.cell? ⟨lb, 5, none⟩ = some (.bool g.pd.on) := by rw [cell_of_row _ _ _ _ _ _ h.row]; rfl
theorem LogX.c12 [Inhabited RbT] (h : LogX w lb g A) : w.cell? ⟨lb, 12, none⟩ = some (.int .i64 g.n) := by rw [cell_of_row _ _ _ _ _ _ h.row]; rfl
/-- What waits is set. -/
def Lx.pend (g : Lx) (p : Wt) : Lx := ⟨g.rr, g.fs, g.cs, g.top, g.ds, p, g.n⟩
theorem LogX.pend [Inhabited RbT] (h : LogX w lb g A) (p : Wt) (hp : WtIn w p) (hb : WtBl (Bd w lb) p) : LogX (w.setCells lb 5 (wtA p).toList) lb (g.pend p) A ∧ Upd (fun q => q = lb) w (w.setCells lb 5 (wtA p).toList) := by
 have hst := Upd.setCells (S := fun q => q = lb) rfl (wtA p).toList 5 w
 have hz := hst.size
 have hrow : (w.setCells lb 5 (wtA p).toList).heap[lb]? = some (.cells (logX (g.pend p) A) 105) := by
  have h0 := setCell_heap 5 (.bool p.on) h.row
  have h1 := setCell_heap 6 (.bool p.re) h0
  have h2 := setCell_heap 7 (.int .i64 p.src) h1
  have h3 := setCell_heap 8 (.int .i64 p.dst) h2
  have h4 := setCell_heap 9 (.slice p.sa p.ss.length p.sc) h3
  have h5 := setCell_heap 10 (.int .i64 p.com) h4
  have h6 := setCell_heap 11 (.slice p.ca p.cs.length p.cc) h5
  have e : (w.setCells lb 5 (wtA p).toList) = (((((((w.setCell ⟨lb, 5, none⟩ (.bool p.on)).setCell ⟨lb, 6, none⟩ (.bool p.re)).setCell ⟨lb, 7, none⟩ (.int .i64 p.src)).setCell ⟨lb, 8, none⟩ (.int .i64 p.dst)).setCell ⟨lb, 9, none⟩ (.slice p.sa p.ss.length p.sc)).setCell ⟨lb, 10, none⟩ (.int .i64 p.com)).setCell ⟨lb, 11, none⟩ (.slice p.ca p.cs.length p.cc)) := rfl
  rw [e, h6]
  simp [logX, Lx.pend]
 exact ⟨h.row' hst hrow (h.rr.upd hst (fun q hq => (h.n1 q hq).1)) (h.fs.upd hst (fun q hq => (h.n2 q hq).1)) (h.cs.upd hst (fun q hq => (h.n3 q hq).1)) (h.ds.upd hst (fun q hq => (h.n4 q hq).1))
  (fun q hq => (h.n1 q hq).up hz) (fun q hq => (h.n2 q hq).up hz) (fun q hq => (h.n3 q hq).up hz) (fun q hq => (h.n4 q hq).up hz) (fun r hr => .inl hr) (.inr ⟨hp.updS (hb.mono (fun q hq => hq.1)) hst, hb.mono (fun q hq => hq.up hz)⟩), hst⟩
theorem log_there (g : Lx) (A : LA) (j : Nat) (hj : j < 7) : ∃ v, (logX g A)[5 + j]? = some v := by
 refine ⟨(logX g A)[5 + j]'(by show 5 + j < 13; omega), Array.getElem?_eq_getElem _⟩
theorem LogX.there [Inhabited RbT] (h : LogX w lb g A) : w.there lb 5 7 := fun j hj => by
 refine ⟨?_, h.free _⟩
 obtain ⟨v, hv⟩ := log_there g A j hj
 rw [cell_of_row _ _ _ _ _ _ h.row, hv]
 rfl
end
def wt0 : Wt := ⟨false, false, 0, 0, none, 0, [], 0, none, 0, []⟩
theorem wt0_in (w : World) : WtIn w wt0 := ⟨Vw.nl _ _, (fun m h => by cases h), Vw.nl _ _⟩
theorem wt0_bl (P : Nat → Prop) : WtBl P wt0 := ⟨(fun g h => by cases h), (fun m h => by cases h), (fun g h => by cases h)⟩
theorem pendA_wt0 : pendA = wtA wt0 := rfl
theorem root_fillR (r : Rt) : Instr.fill (fun i => some (i * 5, 5)) ((Array.range (1 * 5)).map ((Value.agg (rootA 0 none 0 0 0)).cells[· % (Value.agg (rootA 0 none 0 0 0)).cells.size]!)) [(0, .agg (rtA r))] = some (rtA r) := by
 obtain ⟨p, a, c, ks, ma, mc, ms, na, nc, ns, k⟩ := r
 kernel_rfl
/-- What addRoot answers. -/
def addE (g : Lx) (r : Rt) : Int := if r.p ≠ g.top - 1 then 5 else if 2000 ≤ g.rr.length ∨ 2000 < g.cs.length + r.ks.length then 6 else 0
def addG (g : Lx) (r : Rt) : Lx := if addE g r = 0 then ⟨g.rr ++ [r], g.fs ++ [(g.cs.length : Int)], g.cs ++ r.ks, (g.rr.length : Int) + 1, [], wt0, g.n⟩ else g
/-- Bounds that the log keeps. -/
structure LxB (g : Lx) : Prop where
 rr : g.rr.length ≤ 2000
 fs : g.fs.length ≤ 2000
 cs : g.cs.length ≤ 2000
 t0 : 0 ≤ g.top
 t1 : g.top ≤ 2000
set_option maxHeartbeats 16000000 in
theorem addRoot_gen [Inhabited RbT] (g : Lx) (A : LA) (lb : Nat) (r : Rt) (w : World) (h : LogX w lb g A) (hg : LxB g) (hr : RtIn w r) (hb : RtBl (Bd w lb) r) (hks : r.ks.length ≤ 100000) :
  Calls Tryz.prog 97 #[.pointer (some ⟨lb, 0, none⟩), .agg (rtA r)] w fun e w' => e = .returned (.int .i64 (addE g r)) ∧ ∃ A', LogX w' lb (addG g r) A' ∧ Upd (fun q => q = lb) w w' := by
 obtain ⟨ra, rc, fa, fc, ka, kc, da, dc⟩ := A
 have hE : addE g r = if r.p ≠ g.top - 1 then 5 else if 2000 ≤ g.rr.length ∨ 2000 < g.cs.length + r.ks.length then 6 else 0 := rfl
 have hG : addG g r = if addE g r = 0 then ⟨g.rr ++ [r], g.fs ++ [(g.cs.length : Int)], g.cs ++ r.ks, (g.rr.length : Int) + 1, [], wt0, g.n⟩ else g := rfl
 generalize addG g r = G2 at *
 generalize addE g r = EE at *
 obtain ⟨rr, fs, cs, top, ds, pd, n⟩ := g
 obtain ⟨hrr, hfs, hcs, ht0, ht1⟩ := hg
 dsimp only at *
 have hU1 := Upd.alloc (fun _ => False) w (.cells (rtA r) 26)
 have hrow := heap_alloc_new w (.cells (rtA r) 26)
 have h1 := h.other hU1
 have hlt := h.lt
 have HE := Lib.hid (And.intro hE hG)
 have hz0 : (rtA r)[0]? = some (.int .i64 r.p) := rfl
 have hz1 : (rtA r)[1]? = some (.slice r.ca r.ks.length r.cc) := rfl
 have hsz : (Tryz.prog.info? 26).map (·.size) = some (rtA r).size := by rw [infoRoot]; rfl
 have h5 : (rtA r).size = 5 := rfl
 have h1c := rtA_one r
 have HA5 := Lib.hid (And.intro hsz (And.intro h5 h1c))
 have HFL := Lib.hid (root_fillR r)
 obtain ⟨rt, hrt⟩ : ∃ rt, rt = r := ⟨_, rfl⟩
 have HRT := Lib.hid hrt
 generalize hAA : rtA r = AA at *
 have HAA := Lib.hid hAA
 have HRV : Hid (AA.toList = rtV rt) := Lib.hid (by rw [← HAA.out, HRT.out]; rfl)
 have htw : IntKind.i64.wrap (top - 1) = top - 1 := IntWalk.i64_in _ (by omega)
 have HT := Lib.hid (And.intro ht0 ht1)
 have HI := Lib.hid (And.intro h1 (And.intro hrow hU1))
 have HRI := Lib.hid (And.intro hr hb)
 clear hU1 hrow h1 h ht0 ht1 hE hG hsz h5 h1c hAA hr hb hrt
 generalize hp : r.p = p at *
 generalize hca : r.ca = ca at *
 generalize hcc : r.cc = cc at *
 generalize hkk : r.ks = rks at *
 have HPK := Lib.hid (And.intro hp (And.intro hca (And.intro hcc hkk)))
 clear hp hca hcc hkk
 go_enter Tryz.func97, Tryz.ntmps97
 go_upto_region 1 with (fail)
 generalize w.alloc (.cells AA 26) = y0 at *
 obtain ⟨RB, hRB⟩ : ∃ B, w.heap.size = B := ⟨_, rfl⟩
 have HRN : Hid (∀ q, Bd w lb q → q ≠ RB) := Lib.hid (fun q hq => by have := hq.2; omega)
 rw [hRB] at HI hlt ⊢
 have HRB := Lib.hid hRB
 clear hRB
 have z0 : y0.cell? ⟨RB, 0, none⟩ = some (.int .i64 p) := (cell_of_row _ RB 0 _ _ _ HI.out.2.1).trans hz0
 have q3 := HI.out.1.c3
 dsimp only at q3
 have HZC := Lib.hid (And.intro hz0 hz1)
 clear hz0 hz1
 by_cases hp : p = top - 1
 case neg =>
  have hbe : (p != top - 1) = true := by simp [hp]
  have HE5 : Hid (EE = 5) := Lib.hid (by rw [HE.out.1, if_pos hp])
  clear hp
  refine wp_region_plan_last [] [0, 1, 2, 3, 4, 5, 6, 7, 8] (fun w' => w'.cell? ⟨RB, 0, none⟩ = some (.int .i64 p) ∧ w'.cell? ⟨lb, 3, none⟩ = some (.int .i64 top)) (by kernel_rfl) (by kernel_rfl) ⟨z0, q3⟩ ?_
  iterate 9
   first | refine plan_lskip rfl rfl ?_ | (refine plan_last (v := ?_) rfl rfl (fun w' hS => ?_) ?_; rotate_left; · (go_simp; try with_reducible rfl))
   simp only [putL]
  refine plan_end ?_
  go_wp2_with fail
  go_ret
  refine ⟨by rw [HE5.out]; rfl, ⟨ra, rc, fa, fc, ka, kc, da, dc⟩, ?_, (HI.out.2.2.trans (Upd.drew _ _)).mono (fun _ _ h => h.elim)⟩
  rw [HE.out.2, HE5.out, if_neg (by decide)]
  exact HI.out.1.drew
 case pos =>
 have hbe : (p != top - 1) = false := by simp [hp]
 refine wp_region_plan_last [] [0, 1, 2, 3, 4, 5, 6, 7, 8] (fun w' => w'.cell? ⟨RB, 0, none⟩ = some (.int .i64 p) ∧ w'.cell? ⟨lb, 3, none⟩ = some (.int .i64 top)) (by kernel_rfl) (by kernel_rfl) ⟨z0, q3⟩ ?_
 iterate 9
  first | refine plan_lskip rfl rfl ?_ | (refine plan_last (v := ?_) rfl rfl (fun w' hS => ?_) ?_; rotate_left; · (go_simp; try with_reducible rfl))
  simp only [putL]
 refine plan_end ?_
 clear z0 q3 htw
 have q2 := HI.out.1.drew.c2
 have q0 := HI.out.1.drew.c0
 have z1 : y0.drew.cell? ⟨RB, 1, none⟩ = some (.slice ca rks.length cc) := (cell_of_row y0 RB 1 _ _ _ HI.out.2.1).trans HZC.out.2
 dsimp only at q0 q2
 have HE1 : Hid (EE = if 2000 ≤ rr.length ∨ 2000 < cs.length + rks.length then 6 else 0) := Lib.hid (by rw [HE.out.1, if_neg (by simp [hp])])
 have HPT := Lib.hid hp
 clear hp
 go_upto_region 3 with (fail)
 clear hbe
 by_cases hl1 : 2000 ≤ rr.length
 case pos =>
  have hI1 : decide ((2000 : Int) ≤ (rr.length : Int)) = true := by rw [decide_eq_true_iff]; omega
  have HE6 : Hid (EE = 6) := Lib.hid (by rw [HE1.out, if_pos (.inl hl1)])
  clear hl1
  refine wp_region_plan_last [] [0, 1, 2, 3, 4, 5, 6, 7, 8, 9, 10, 11, 12, 13, 14, 15, 16, 17, 18] (fun w' => w'.cell? ⟨lb, 0, none⟩ = some (.slice ra rr.length rc) ∧ w'.cell? ⟨lb, 2, none⟩ = some (.slice ka cs.length kc) ∧ w'.cell? ⟨RB, 1, none⟩ = some (.slice ca rks.length cc)) (by kernel_rfl) (by kernel_rfl) ⟨q0, q2, z1⟩ ?_
  iterate 19
   first | refine plan_lskip rfl rfl ?_ | (refine plan_last (v := ?_) rfl rfl (fun w' hS => ?_) ?_; rotate_left; · (go_simp; try with_reducible rfl))
   simp only [putL]
  refine plan_end ?_
  go_wp2_with fail
  go_ret
  refine ⟨by rw [HE6.out]; rfl, ⟨ra, rc, fa, fc, ka, kc, da, dc⟩, ?_, (HI.out.2.2.trans ((Upd.drew _ _).trans (Upd.drew _ _))).mono (fun _ _ h => h.elim)⟩
  rw [HE.out.2, HE6.out, if_neg (by decide)]
  exact HI.out.1.drew.drew
 case neg =>
 have hI1 : decide ((2000 : Int) ≤ (rr.length : Int)) = false := by rw [decide_eq_false_iff_not]; omega
 have hI3 : IntKind.i64.wrap ((cs.length : Int) + (rks.length : Int)) = (cs.length : Int) + (rks.length : Int) := IntWalk.i64_in _ (by omega)
 by_cases hl2 : 2000 < cs.length + rks.length
 case pos =>
  have hI2 : decide ((2000 : Int) < (cs.length : Int) + (rks.length : Int)) = true := by rw [decide_eq_true_iff]; omega
  have HE6 : Hid (EE = 6) := Lib.hid (by rw [HE1.out, if_pos (.inr hl2)])
  clear hl1 hl2
  refine wp_region_plan_last [] [0, 1, 2, 3, 4, 5, 6, 7, 8, 9, 10, 11, 12, 13, 14, 15, 16, 17, 18] (fun w' => w'.cell? ⟨lb, 0, none⟩ = some (.slice ra rr.length rc) ∧ w'.cell? ⟨lb, 2, none⟩ = some (.slice ka cs.length kc) ∧ w'.cell? ⟨RB, 1, none⟩ = some (.slice ca rks.length cc)) (by kernel_rfl) (by kernel_rfl) ⟨q0, q2, z1⟩ ?_
  iterate 19
   first | refine plan_lskip rfl rfl ?_ | (refine plan_last (v := ?_) rfl rfl (fun w' hS => ?_) ?_; rotate_left; · (go_simp; try with_reducible rfl))
   simp only [putL]
  refine plan_end ?_
  go_wp2_with fail
  go_ret
  refine ⟨by rw [HE6.out]; rfl, ⟨ra, rc, fa, fc, ka, kc, da, dc⟩, ?_, (HI.out.2.2.trans ((Upd.drew _ _).trans (Upd.drew _ _))).mono (fun _ _ h => h.elim)⟩
  rw [HE.out.2, HE6.out, if_neg (by decide)]
  exact HI.out.1.drew.drew
 case neg =>
 have hI2 : decide ((2000 : Int) < (cs.length : Int) + (rks.length : Int)) = false := by rw [decide_eq_false_iff_not]; omega
 have HE0 : Hid (EE = 0) := Lib.hid (by rw [HE1.out, if_neg (by omega)])
 refine wp_region_plan_last [] [0, 1, 2, 3, 4, 5, 6, 7, 8, 9, 10, 11, 12, 13, 14, 15, 16, 17, 18] (fun w' => w'.cell? ⟨lb, 0, none⟩ = some (.slice ra rr.length rc) ∧ w'.cell? ⟨lb, 2, none⟩ = some (.slice ka cs.length kc) ∧ w'.cell? ⟨RB, 1, none⟩ = some (.slice ca rks.length cc)) (by kernel_rfl) (by kernel_rfl) ⟨q0, q2, z1⟩ ?_
 iterate 19
  first | refine plan_lskip rfl rfl ?_ | (refine plan_last (v := ?_) rfl rfl (fun w' hS => ?_) ?_; rotate_left; · (go_simp; try with_reducible rfl))
  simp only [putL]
 refine plan_end ?_
 clear q0 q2 z1
 have HU2 := Lib.hid (HI.out.2.2.trans ((Upd.drew (fun _ => False) y0).trans (Upd.drew _ _)))
 have HI2 := Lib.hid HI.out.1.drew.drew
 have HG : Hid (∀ w', Upd (fun q => q = lb) y0.drew.drew w' → w'.heap[RB]? = some (.cells AA 26)) := Lib.hid (fun w' hU => (hU.block RB (lt_of_heap (w := y0.drew.drew) HI.out.2.1) (by omega)).trans HI.out.2.1)
 have HZ : Hid (∀ w', Upd (fun q => q = lb) y0.drew.drew w' → w'.cell? ⟨RB, 0, none⟩ = some (.int .i64 p) ∧ w'.cell? ⟨RB, 1, none⟩ = some (.slice ca rks.length cc)) := Lib.hid (fun w' hU => ⟨(cell_of_row _ RB 0 _ _ _ (HG.out w' hU)).trans HZC.out.1, (cell_of_row _ RB 1 _ _ _ (HG.out w' hU)).trans HZC.out.2⟩)
 have HRG : Hid (∀ w', Upd (fun q => q = lb) y0.drew.drew w' → RtIn w' rt ∧ RtBl (Bd w' lb) rt) := Lib.hid (fun w' hU => by
  rw [HRT.out]
  have hz := (HU2.out.size)
  have h2 := HRI.out.1.updS (HRI.out.2.mono (fun _ _ h => h)) HU2.out
  exact ⟨h2.updS (HRI.out.2.mono (fun q hq => hq.1)) hU, HRI.out.2.mono (fun q hq => (hq.up hz).up hU.size)⟩)
 have HL := Lib.hid (And.intro HI2.out (Upd.refl (fun q => q = lb) y0.drew.drew))
 have HKS : Hid (rks = rt.ks ∧ ca = rt.ca ∧ cc = rt.cc) := Lib.hid ⟨by rw [HRT.out]; exact HPK.out.2.2.2.symm, by rw [HRT.out]; exact HPK.out.2.1.symm, by rw [HRT.out]; exact HPK.out.2.2.1.symm⟩
 have HRK : Hid (∀ w', Upd (fun q => q = lb) y0.drew.drew w' → Vw w' ca rks.length cc 32 (rks.flatMap kyV)) := Lib.hid (fun w' hU => by rw [HKS.out.1, HKS.out.2.1, HKS.out.2.2]; exact (HRG.out w' hU).1.cv)
 clear HI hI1 hI2 hI3 HI2 hl1 hl2
 go_upto_region 5 with (fail)
 generalize y0.drew.drew = yb at *
 go_cut [] (fun wx => ∃ a8 c8, Hid (LogX wx lb ⟨rr, fs ++ [(cs.length : Int)], cs, top, ds, pd, n⟩ ⟨ra, rc, a8, c8, ka, kc, da, dc⟩ ∧ Upd (fun q => q = lb) yb wx))
 case first =>
  have HD := Lib.hid HL.out.1.drew
  have hq := (show yb.drew.cell? ⟨lb, 1, none⟩ = some (.slice fa fs.length fc) ∧ yb.drew.cell? ⟨lb, 2, none⟩ = some (.slice ka cs.length kc) from ⟨HD.out.c1, HD.out.c2⟩)
  have hv0 := HD.out.fs
  dsimp only at hv0
  obtain ⟨i0, hi, hz0, hz1, hz2⟩ := info_parts4 infoIntZ
  have HIX := Lib.hid (And.intro hi (And.intro hz0 (And.intro hz1 hz2)))
  clear hi hz0 hz1 hz2
  refine wp_region_fork_last [0, 1, 2, 3, 4, 6, 7, 8, 9, 10] 5 11 ([([], 11), ([], 12), ([13, 14], 15)], []) ([([], 5), ([], 12), ([13, 14], 15)], []) (fun w' => w'.cell? ⟨lb, 1, none⟩ = some (.slice fa fs.length fc) ∧ w'.cell? ⟨lb, 2, none⟩ = some (.slice ka cs.length kc)) (by kernel_rfl) (by kernel_rfl) hq ?_
  iterate 10
   first | refine fork_lskip rfl rfl ?_ | (refine fork_last (v := ?_) rfl rfl (fun w' hS => ?_) ?_; rotate_left; · (go_simp; try with_reducible rfl))
   simp only [putL]
  have hUb := Upd.alloc (fun _ => False) yb.drew (.cells #[.int .i64 (cs.length : Int)] 3)
  have HDb := Lib.hid (HD.out.other hUb)
  have HUB := Lib.hid ((Upd.drew (fun _ => False) yb).trans hUb)
  have hqb := (show (yb.drew.alloc (.cells #[.int .i64 (cs.length : Int)] 3)).cell? ⟨lb, 1, none⟩ = some (.slice fa fs.length fc) ∧ (yb.drew.alloc (.cells #[.int .i64 (cs.length : Int)] 3)).cell? ⟨lb, 2, none⟩ = some (.slice ka cs.length kc) from ⟨HDb.out.c1, HDb.out.c2⟩)
  have hvb := HDb.out.fs
  dsimp only at hvb
  have hsrc : Src Tryz.prog 1 49 (.slice (some ⟨yb.drew.heap.size, 0, none⟩) 1 1) 1 ([iv cs.length]) (yb.drew.alloc (.cells #[.int .i64 (cs.length : Int)] 3)) := int_src _ _
  clear hUb
  refine fork_both ?_ ?_
  ·refine plan_act rfl (fun K1 hK1 => ?_)
   go_wp2_with fail
   refine (clipI_any fa fs.length fc 1 _ _ hv0).mono ?_
   rintro e w' ⟨rfl, rfl⟩
   go_wp2_with fail
   refine hK1.out _ _ (.inr hq) ?_
   refine plan_act rfl (fun K2 hK2 => ?_)
   go_wp2_with fail
   refine hK2.out _ _ (.inr hqb) ?_
   refine plan_act rfl (fun K3 hK3 => ?_)
   refine wpList_appV2 _ rfl (.tmp 38) (.tmp 44) 49 49 rfl 3 i0 (.int .i64 0) 1 8 Tryz.underlying49 HIX.out.1 HIX.out.2.1 HIX.out.2.2.1 HIX.out.2.2.2 rfl fa fs.length (fs.map iv) rfl hvb.clip2 (.slice (some ⟨yb.drew.heap.size, 0, none⟩) 1 1) 1 ([iv cs.length]) rfl hsrc ?_ ?_ ?_
   ·unfold maxLen; omega
   ·omega
   intro a8 c8 w8 hv8 hU8 hf8
   have HD8 := Lib.hid (HDb.out.other hU8)
   have hq8 := (show w8.cell? ⟨lb, 1, none⟩ = some (.slice fa fs.length fc) ∧ w8.cell? ⟨lb, 2, none⟩ = some (.slice ka cs.length kc) from ⟨HD8.out.c1, HD8.out.c2⟩)
   have hfr8 := HD8.out.free 1
   have hput := HDb.out.put (g' := ⟨rr, fs ++ [(cs.length : Int)], cs, top, ds, pd, n⟩) (A' := ⟨ra, rc, a8, c8, ka, kc, da, dc⟩) hU8 1 (.slice a8 (fs.length + 1) c8) (by simp [logX]) HD8.out.rr (by simpa [iv] using hv8) HD8.out.cs HD8.out.ds HD8.out.n1 (fun q hq => (hf8 q hq).elim (fun e => (HDb.out.n2 q e).up hU8.size) (fun e => HDb.out.fresh e.1 e.2)) HD8.out.n3 HD8.out.n4 (fun x hx => .inl hx) rfl
   have HP := Lib.hid (And.intro hput.1 (HL.out.2.trans ((HUB.out.mono (fun _ _ h => h.elim)).trans hput.2)))
   clear hput hv8 hU8 hf8
   go_wp2_with fail
   refine hK3.out _ _ (.inr hq8) ?_
   iterate 2
    first | refine plan_skip rfl rfl ?_ | (refine plan_take (v := ?_) rfl rfl (fun w' hS => ?_) ?_; rotate_left; · (go_simp; try with_reducible rfl))
    simp only [putL]
   refine plan_act rfl (fun K4 hK4 => ?_)
   have hq1 := hq8.1
   go_wp2_with fail
   refine hK4.out _ _ (.inl rfl) (plan_end ?_)
   go_wp2_with fail
   go_meet
   case rel => exact ⟨a8, c8, HP⟩
  ·refine plan_act rfl (fun K1 hK1 => ?_)
   go_wp2_with fail
   refine hK1.out _ _ (.inr hqb) ?_
   refine plan_act rfl (fun K2 hK2 => ?_)
   go_wp2_with fail
   refine (clipI_any fa fs.length fc 1 _ _ hvb).mono ?_
   rintro e w' ⟨rfl, rfl⟩
   go_wp2_with fail
   refine hK2.out _ _ (.inr hqb) ?_
   refine plan_act rfl (fun K3 hK3 => ?_)
   refine wpList_appV2 _ rfl (.tmp 38) (.tmp 44) 49 49 rfl 3 i0 (.int .i64 0) 1 8 Tryz.underlying49 HIX.out.1 HIX.out.2.1 HIX.out.2.2.1 HIX.out.2.2.2 rfl fa fs.length (fs.map iv) rfl hvb.clip2 (.slice (some ⟨yb.drew.heap.size, 0, none⟩) 1 1) 1 ([iv cs.length]) rfl hsrc ?_ ?_ ?_
   ·unfold maxLen; omega
   ·omega
   intro a8 c8 w8 hv8 hU8 hf8
   have HD8 := Lib.hid (HDb.out.other hU8)
   have hq8 := (show w8.cell? ⟨lb, 1, none⟩ = some (.slice fa fs.length fc) ∧ w8.cell? ⟨lb, 2, none⟩ = some (.slice ka cs.length kc) from ⟨HD8.out.c1, HD8.out.c2⟩)
   have hfr8 := HD8.out.free 1
   have hput := HDb.out.put (g' := ⟨rr, fs ++ [(cs.length : Int)], cs, top, ds, pd, n⟩) (A' := ⟨ra, rc, a8, c8, ka, kc, da, dc⟩) hU8 1 (.slice a8 (fs.length + 1) c8) (by simp [logX]) HD8.out.rr (by simpa [iv] using hv8) HD8.out.cs HD8.out.ds HD8.out.n1 (fun q hq => (hf8 q hq).elim (fun e => (HDb.out.n2 q e).up hU8.size) (fun e => HDb.out.fresh e.1 e.2)) HD8.out.n3 HD8.out.n4 (fun x hx => .inl hx) rfl
   have HP := Lib.hid (And.intro hput.1 (HL.out.2.trans ((HUB.out.mono (fun _ _ h => h.elim)).trans hput.2)))
   clear hput hv8 hU8 hf8
   go_wp2_with fail
   refine hK3.out _ _ (.inr hq8) ?_
   iterate 2
    first | refine plan_skip rfl rfl ?_ | (refine plan_take (v := ?_) rfl rfl (fun w' hS => ?_) ?_; rotate_left; · (go_simp; try with_reducible rfl))
    simp only [putL]
   refine plan_act rfl (fun K4 hK4 => ?_)
   have hq1 := hq8.1
   go_wp2_with fail
   refine hK4.out _ _ (.inl rfl) (plan_end ?_)
   go_wp2_with fail
   go_meet
   case rel => exact ⟨a8, c8, HP⟩
 case rest =>
 clear HL
 obtain ⟨fa, fc, HL⟩ := hcut
 go_upto_region 6 with (fail)
 go_cut [] (fun wx => ∃ a8 c8, Hid (LogX wx lb ⟨rr, fs ++ [(cs.length : Int)], cs ++ rks, top, ds, pd, n⟩ ⟨ra, rc, fa, fc, a8, c8, da, dc⟩ ∧ Upd (fun q => q = lb) yb wx))
 case first =>
  have HD := Lib.hid HL.out.1.drew
  have hzc := (HZ.out _ (HL.out.2.trans (Upd.drew _ _))).2
  have hq := (show wc.drew.cell? ⟨lb, 2, none⟩ = some (.slice ka cs.length kc) ∧ wc.drew.cell? ⟨RB, 1, none⟩ = some (.slice ca rks.length cc) from ⟨HD.out.c2, hzc⟩)
  have hv0 := HD.out.cs
  dsimp only at hv0
  obtain ⟨i0, hi, hz0, hz1, hz2⟩ := info_parts4 infoKeyZ
  have HIX := Lib.hid (And.intro hi (And.intro hz0 (And.intro hz1 hz2)))
  clear hi hz0 hz1 hz2 hzc
  refine wp_region_plan_last [([0, 1, 2, 3, 4, 6, 7], 5), ([], 8), ([9, 10], 11)] [] (fun w' => w'.cell? ⟨lb, 2, none⟩ = some (.slice ka cs.length kc) ∧ w'.cell? ⟨RB, 1, none⟩ = some (.slice ca rks.length cc)) (by kernel_rfl) (by kernel_rfl) hq ?_
  iterate 7
   first | refine plan_skip rfl rfl ?_ | (refine plan_take (v := ?_) rfl rfl (fun w' hS => ?_) ?_; rotate_left; · (go_simp; try with_reducible rfl))
   simp only [putL]
  refine plan_act rfl (fun K1 hK1 => ?_)
  go_wp2_with fail
  refine (clipK_any ka cs.length kc 32 _ _ hv0).mono ?_
  rintro e w' ⟨rfl, rfl⟩
  go_wp2_with fail
  refine hK1.out _ _ (.inr hq) ?_
  have hsrc := (HRK.out _ (HL.out.2.trans (Upd.drew _ _))).src (P := Tryz.prog) (t := 22) Tryz.underlying22 (kysV_one rks)
  refine plan_act rfl (fun K3 hK3 => ?_)
  refine wpList_appV2 _ rfl (.tmp 53) (.tmp 55) 22 22 rfl 52 i0 (.agg (kyA kyZ)) 32 32 Tryz.underlying22 HIX.out.1 HIX.out.2.1 HIX.out.2.2.1 HIX.out.2.2.2 (kyA_size kyZ) ka cs.length (cs.flatMap kyV) rfl hv0.clip2 (.slice ca rks.length cc) rks.length (rks.flatMap kyV) rfl hsrc ?_ ?_ ?_
  ·unfold maxLen; omega
  ·omega
  intro a8 c8 w8 hv8 hU8 hf8
  have HD8 := Lib.hid (HD.out.other hU8)
  have hz8 := (HZ.out _ ((HL.out.2.trans (Upd.drew _ _)).trans (hU8.mono (fun _ _ h => h.elim)))).2
  have hq8 := (show w8.cell? ⟨lb, 2, none⟩ = some (.slice ka cs.length kc) ∧ w8.cell? ⟨RB, 1, none⟩ = some (.slice ca rks.length cc) from ⟨HD8.out.c2, hz8⟩)
  have hfr8 := HD8.out.free 2
  have hput := HD.out.put (g' := ⟨rr, fs ++ [(cs.length : Int)], cs ++ rks, top, ds, pd, n⟩) (A' := ⟨ra, rc, fa, fc, a8, c8, da, dc⟩) hU8 2 (.slice a8 (cs.length + rks.length) c8) (by simp [logX]) HD8.out.rr HD8.out.fs (by simpa using hv8) HD8.out.ds HD8.out.n1 HD8.out.n2 (fun q hq => (hf8 q hq).elim (fun e => (HD.out.n3 q e).up hU8.size) (fun e => HD.out.fresh e.1 e.2)) HD8.out.n4 (fun x hx => .inl hx) rfl
  have HP := Lib.hid (And.intro hput.1 (HL.out.2.trans ((Upd.drew _ _).trans hput.2)))
  clear hput hv8 hU8 hf8 hsrc hz8
  go_wp2_with fail
  refine hK3.out _ _ (.inr hq8) ?_
  iterate 2
   first | refine plan_skip rfl rfl ?_ | (refine plan_take (v := ?_) rfl rfl (fun w' hS => ?_) ?_; rotate_left; · (go_simp; try with_reducible rfl))
   simp only [putL]
  refine plan_act rfl (fun K4 hK4 => ?_)
  have hq1 := hq8.1
  go_wp2_with fail
  refine hK4.out _ _ (.inl rfl) (plan_end ?_)
  go_wp2_with fail
  go_meet
  case rel => exact ⟨a8, c8, HP⟩
 case rest =>
 clear HL
 obtain ⟨ka, kc, HL⟩ := hcut
 go_upto_region 7 with (fail)
 go_cut [] (fun wx => ∃ a8 c8, Hid (LogX wx lb ⟨rr ++ [rt], fs ++ [(cs.length : Int)], cs ++ rks, top, ds, pd, n⟩ ⟨a8, c8, fa, fc, ka, kc, da, dc⟩ ∧ Upd (fun q => q = lb) yb wx))
 case first =>
  have HD := Lib.hid HL.out.1.drew
  have hq := (show wc.drew.cell? ⟨lb, 0, none⟩ = some (.slice ra rr.length rc) ∧ wc.drew.heap[RB]? = some (.cells AA 26 (0, 0)) from ⟨HD.out.c0, HG.out _ (HL.out.2.trans (Upd.drew _ _))⟩)
  have hv0 := HD.out.rr
  dsimp only at hv0
  obtain ⟨i0, hi, hz0, hz1, hz2⟩ := info_parts4 infoRootZ
  have HIX := Lib.hid (And.intro hi (And.intro hz0 (And.intro hz1 hz2)))
  clear hi hz0 hz1 hz2
  refine wp_region_fork_last [0, 1, 2, 3, 4, 6] 5 7 ([([], 7), ([], 8), ([9, 10], 11)], []) ([([], 5), ([], 8), ([9, 10], 11)], []) (fun w' => w'.cell? ⟨lb, 0, none⟩ = some (.slice ra rr.length rc) ∧ w'.heap[RB]? = some (.cells AA 26 (0, 0))) (by kernel_rfl) (by kernel_rfl) hq ?_
  iterate 5
   first | refine fork_lskip rfl rfl ?_ | (refine fork_last (v := ?_) rfl rfl (fun w' hS => ?_) ?_; rotate_left; · (go_simp; try with_reducible rfl))
   simp only [putL]
  refine fork_last (v := .agg AA) rfl rfl (fun w' hS => exec_load_row 26 (.tmp 3) rfl RB AA 26 (0, 0) _ rfl hS.2 Tryz.underlying26 rfl HA5.out.1) ?_
  simp only [putL]
  have hUb := Upd.alloc (fun _ => False) wc.drew (.cells AA 26)
  have HDb := Lib.hid (HD.out.other hUb)
  have HUB := Lib.hid ((Upd.drew (fun _ => False) wc).trans hUb)
  have hqb := (show (wc.drew.alloc (.cells AA 26)).cell? ⟨lb, 0, none⟩ = some (.slice ra rr.length rc) ∧ (wc.drew.alloc (.cells AA 26)).heap[RB]? = some (.cells AA 26 (0, 0)) from ⟨HDb.out.c0, HG.out _ (HL.out.2.trans (HUB.out.mono (fun _ _ h => h.elim)))⟩)
  have hvb := HDb.out.rr
  dsimp only at hvb
  have hsrc : Src Tryz.prog 5 67 (.slice (some ⟨wc.drew.heap.size, 0, none⟩) 1 1) 1 (AA.toList) (wc.drew.alloc (.cells AA 26)) := row_src (X := AA) Tryz.underlying67 HA5.out.2.1 HA5.out.2.2 (heap_alloc_new _ _)
  clear hUb
  refine fork_both ?_ ?_
  ·refine plan_act rfl (fun K1 hK1 => ?_)
   go_wp2_with fail
   refine (clipR_any ra rr.length rc 5 _ _ hv0).mono ?_
   rintro e w' ⟨rfl, rfl⟩
   go_wp2_with fail
   refine hK1.out _ _ (.inr hq) ?_
   refine plan_act rfl (fun K2 hK2 => ?_)
   refine wpList_slice_gen rfl 67 26 5 (.tmp 65) rfl Tryz.underlying67 i0 (.agg (rootA 0 none 0 0 0)) HIX.out.1 HIX.out.2.1 HIX.out.2.2.1 (by decide) (by decide) (.agg AA) AA rfl HFL.out ?_
   go_wp2_with fail
   refine hK2.out _ _ (.inr hqb) ?_
   refine plan_act rfl (fun K3 hK3 => ?_)
   refine wpList_appV2 _ rfl (.tmp 64) (.tmp 66) 67 67 rfl 26 i0 (.agg (rootA 0 none 0 0 0)) 5 88 Tryz.underlying67 HIX.out.1 HIX.out.2.1 HIX.out.2.2.1 HIX.out.2.2.2 rfl ra rr.length (rr.flatMap rtV) rfl hvb.clip2 (.slice (some ⟨wc.drew.heap.size, 0, none⟩) 1 1) 1 (AA.toList) rfl hsrc ?_ ?_ ?_
   ·unfold maxLen; omega
   ·omega
   intro a8 c8 w8 hv8 hU8 hf8
   have HD8 := Lib.hid (HDb.out.other hU8)
   have hq8 := (show w8.cell? ⟨lb, 0, none⟩ = some (.slice ra rr.length rc) ∧ w8.heap[RB]? = some (.cells AA 26 (0, 0)) from ⟨HD8.out.c0, HG.out _ (HL.out.2.trans ((HUB.out.mono (fun _ _ h => h.elim)).trans (hU8.mono (fun _ _ h => h.elim))))⟩)
   have hfr8 := HD8.out.free 0
   have hput := HDb.out.put (g' := ⟨rr ++ [rt], fs ++ [(cs.length : Int)], cs ++ rks, top, ds, pd, n⟩) (A' := ⟨a8, c8, fa, fc, ka, kc, da, dc⟩) hU8 0 (.slice a8 (rr.length + 1) c8) (by simp [logX]) (by have h8 := hv8; rw [HRV.out] at h8; simpa using h8) HD8.out.fs HD8.out.cs HD8.out.ds (fun q hq => (hf8 q hq).elim (fun e => (HDb.out.n1 q e).up hU8.size) (fun e => HDb.out.fresh e.1 e.2)) HD8.out.n2 HD8.out.n3 HD8.out.n4 (fun x hx => (List.mem_append.1 hx).imp id (fun e => by rw [List.mem_singleton.1 e]; exact HRG.out _ (HL.out.2.trans ((HUB.out.mono (fun _ _ h => h.elim)).trans (hU8.mono (fun _ _ h => h.elim)))))) rfl
   have HP := Lib.hid (And.intro hput.1 (HL.out.2.trans ((HUB.out.mono (fun _ _ h => h.elim)).trans hput.2)))
   clear hput hv8 hU8 hf8
   go_wp2_with fail
   refine hK3.out _ _ (.inr hq8) ?_
   iterate 2
    first | refine plan_skip rfl rfl ?_ | (refine plan_take (v := ?_) rfl rfl (fun w' hS => ?_) ?_; rotate_left; · (go_simp; try with_reducible rfl))
    simp only [putL]
   refine plan_act rfl (fun K4 hK4 => ?_)
   have hq1 := hq8.1
   go_wp2_with fail
   refine hK4.out _ _ (.inl rfl) (plan_end ?_)
   go_wp2_with fail
   go_meet
   case rel => exact ⟨a8, c8, HP⟩
  ·refine plan_act rfl (fun K1 hK1 => ?_)
   refine wpList_slice_gen rfl 67 26 5 (.tmp 65) rfl Tryz.underlying67 i0 (.agg (rootA 0 none 0 0 0)) HIX.out.1 HIX.out.2.1 HIX.out.2.2.1 (by decide) (by decide) (.agg AA) AA rfl HFL.out ?_
   go_wp2_with fail
   refine hK1.out _ _ (.inr hqb) ?_
   refine plan_act rfl (fun K2 hK2 => ?_)
   go_wp2_with fail
   refine (clipR_any ra rr.length rc 5 _ _ hvb).mono ?_
   rintro e w' ⟨rfl, rfl⟩
   go_wp2_with fail
   refine hK2.out _ _ (.inr hqb) ?_
   refine plan_act rfl (fun K3 hK3 => ?_)
   refine wpList_appV2 _ rfl (.tmp 64) (.tmp 66) 67 67 rfl 26 i0 (.agg (rootA 0 none 0 0 0)) 5 88 Tryz.underlying67 HIX.out.1 HIX.out.2.1 HIX.out.2.2.1 HIX.out.2.2.2 rfl ra rr.length (rr.flatMap rtV) rfl hvb.clip2 (.slice (some ⟨wc.drew.heap.size, 0, none⟩) 1 1) 1 (AA.toList) rfl hsrc ?_ ?_ ?_
   ·unfold maxLen; omega
   ·omega
   intro a8 c8 w8 hv8 hU8 hf8
   have HD8 := Lib.hid (HDb.out.other hU8)
   have hq8 := (show w8.cell? ⟨lb, 0, none⟩ = some (.slice ra rr.length rc) ∧ w8.heap[RB]? = some (.cells AA 26 (0, 0)) from ⟨HD8.out.c0, HG.out _ (HL.out.2.trans ((HUB.out.mono (fun _ _ h => h.elim)).trans (hU8.mono (fun _ _ h => h.elim))))⟩)
   have hfr8 := HD8.out.free 0
   have hput := HDb.out.put (g' := ⟨rr ++ [rt], fs ++ [(cs.length : Int)], cs ++ rks, top, ds, pd, n⟩) (A' := ⟨a8, c8, fa, fc, ka, kc, da, dc⟩) hU8 0 (.slice a8 (rr.length + 1) c8) (by simp [logX]) (by have h8 := hv8; rw [HRV.out] at h8; simpa using h8) HD8.out.fs HD8.out.cs HD8.out.ds (fun q hq => (hf8 q hq).elim (fun e => (HDb.out.n1 q e).up hU8.size) (fun e => HDb.out.fresh e.1 e.2)) HD8.out.n2 HD8.out.n3 HD8.out.n4 (fun x hx => (List.mem_append.1 hx).imp id (fun e => by rw [List.mem_singleton.1 e]; exact HRG.out _ (HL.out.2.trans ((HUB.out.mono (fun _ _ h => h.elim)).trans (hU8.mono (fun _ _ h => h.elim)))))) rfl
   have HP := Lib.hid (And.intro hput.1 (HL.out.2.trans ((HUB.out.mono (fun _ _ h => h.elim)).trans hput.2)))
   clear hput hv8 hU8 hf8
   go_wp2_with fail
   refine hK3.out _ _ (.inr hq8) ?_
   iterate 2
    first | refine plan_skip rfl rfl ?_ | (refine plan_take (v := ?_) rfl rfl (fun w' hS => ?_) ?_; rotate_left; · (go_simp; try with_reducible rfl))
    simp only [putL]
   refine plan_act rfl (fun K4 hK4 => ?_)
   have hq1 := hq8.1
   go_wp2_with fail
   refine hK4.out _ _ (.inl rfl) (plan_end ?_)
   go_wp2_with fail
   go_meet
   case rel => exact ⟨a8, c8, HP⟩
 case rest =>
 clear HL
 obtain ⟨ra, rc, HL⟩ := hcut
 have q0 := HL.out.1.c0
 have q3 := HL.out.1.c3
 have f3 := HL.out.1.free 3
 dsimp only at q0 q3
 rw [List.length_append, List.length_singleton] at q0
 go_upto_region 9 with (fail)
 have hput := HL.out.1.put (g' := ⟨rr ++ [rt], fs ++ [(cs.length : Int)], cs ++ rks, (rr.length : Int) + 1, ds, pd, n⟩) (A' := ⟨ra, rc, fa, fc, ka, kc, da, dc⟩) (Upd.refl _ _) 3 (.int .i64 ((rr.length : Int) + 1)) (by simp [logX]) HL.out.1.rr HL.out.1.fs HL.out.1.cs HL.out.1.ds HL.out.1.n1 HL.out.1.n2 HL.out.1.n3 HL.out.1.n4 (fun x hx => .inl hx) rfl
 have HP := Lib.hid (And.intro hput.1 (HL.out.2.trans hput.2))
 clear hput q0 q3 f3
 generalize wc.setCell ⟨lb, 3, none⟩ (.int .i64 ((rr.length : Int) + 1)) = wd at *
 have hput := HP.out.1.put (g' := ⟨rr ++ [rt], fs ++ [(cs.length : Int)], cs ++ rks, (rr.length : Int) + 1, [], pd, n⟩) (A' := ⟨ra, rc, fa, fc, ka, kc, none, 0⟩) (Upd.refl _ _) 4 (.slice none 0 0) (by simp [logX]) HP.out.1.rr HP.out.1.fs HP.out.1.cs (Vw.nl _ _) HP.out.1.n1 HP.out.1.n2 HP.out.1.n3 (fun q e => by cases e) (fun x hx => .inl hx) rfl
 have HQ := Lib.hid (And.intro hput.1 (HP.out.2.trans hput.2))
 have q4 := HP.out.1.c4
 have f4 := HP.out.1.free 4
 dsimp only at q4
 clear hput
 go_wp2_with first
  | refine wpList_store_mid rfl 30 (.tmp 84) (.tmp 80) rfl lb 5 pendA rfl rfl HQ.out.1.there (by rw [infoPend]; rfl) (by simp [pendA, Value.oneCell']) ?_
 have hfin := HQ.out.1.pend wt0 (wt0_in _) (wt0_bl _)
 rw [← pendA_wt0] at hfin
 have HF := Lib.hid (And.intro hfin.1 (HQ.out.2.trans hfin.2))
 clear hfin q4 f4
 generalize (wd.setCell ⟨lb, 4, none⟩ (.slice none 0 0)).setCells lb 5 pendA.toList = we at *
 go_wp2_with fail
 go_ret
 refine ⟨by rw [HE0.out]; rfl, ⟨ra, rc, fa, fc, ka, kc, none, 0⟩, ?_, (HU2.out.mono (fun _ _ h => h.elim)).trans HF.out.2⟩
 rw [HE.out.2, if_pos HE0.out, ← HRT.out]
 exact HF.out.1
end Go.Proofs.YtccejkikphpnfaaGreatDoor
