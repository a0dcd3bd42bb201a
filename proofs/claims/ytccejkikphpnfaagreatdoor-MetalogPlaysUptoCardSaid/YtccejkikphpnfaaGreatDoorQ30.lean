
/- what read leaves is done (read$1 .. read$4), and Add, in general. -/
import Derived.Test.YtccejkikphpnfaaGreatDoorQ29
namespace Go.Proofs.YtccejkikphpnfaaGreatDoor
set_option linter.unusedSimpArgs false
set_option linter.unusedVariables false
set_option maxRecDepth 100000
open Go.ChangeShapes Go.WideShapes Go.ChangeAt Go.RowKit
theorem infoPend5 : (Tryz.prog.info? 30).map (·.size) = some 7 := by kernel_rfl
/-- One more record. -/
def Lx.cnt (g : Lx) : Lx := ⟨g.rr, g.fs, g.cs, g.top, g.ds, g.pd, g.n + 1⟩
theorem LogX.cnt [Inhabited RbT] {w : World} {lb : Nat} {g : Lx} {A : LA} (h : LogX w lb g A) : LogX (w.setCell ⟨lb, 12, none⟩ (.int .i64 (g.n + 1))) lb g.cnt A ∧ Upd (fun q => q = lb) w (w.setCell ⟨lb, 12, none⟩ (.int .i64 (g.n + 1))) :=
 h.put (g' := g.cnt) (A' := A) (Upd.refl _ _) 12 (.int .i64 (g.n + 1)) (by simp [logX, Lx.cnt]) h.rr h.fs h.cs h.ds h.n1 h.n2 h.n3 h.n4 (fun x hx => .inl hx) rfl
def Done [Inhabited RbT] (w : World) (lb : Nat) (E : Int) (G : Lx) (e : Ending) (w' : World) : Prop := e = .returned (.int .i64 E) ∧ ∃ A', LogX w' lb G A' ∧ Upd (fun q => q = lb) w w'
theorem read1X [Inhabited RbT] (g : Lx) (A : LA) (lb L2 BX : Nat) (r : Rt) (w : World) (h : LogX w lb g A) (hg : LxB g) (hr : RtIn w r) (hb : RtBl (Bd w lb) r) (hks : r.ks.length ≤ 100000)
  (hL : w.heap[L2]? = some (.cells #[.pointer (some ⟨lb, 0, none⟩)] 42)) (hX : w.heap[BX]? = some (.cells (rtA r) 26)) :
  Calls Tryz.prog 96 #[.pointer (some ⟨L2, 0, none⟩), .pointer (some ⟨BX, 0, none⟩)] w (Done w lb (addE g r) (addG g r)) := by
 have hm := addRoot_gen g A lb r w h hg hr hb hks
 have q : w.cell? ⟨L2, 0, none⟩ = some (.pointer (some ⟨lb, 0, none⟩)) := by rw [cell_of_row _ _ _ _ _ _ hL]; rfl
 have hs : (Tryz.prog.info? 26).map (·.size) = some (rtA r).size := by rw [infoRoot]; rfl
 have HS := Lib.hid hs
 clear hL hs h hr hb hks hg
 generalize rtA r = RA at *
 generalize addE g r = EE at *
 generalize addG g r = GE at *
 go_enter Tryz.func96, Tryz.ntmps96
 go_wp2_with (refine wpList_load_row rfl 26 (.tmp 1) rfl BX RA 26 (0, 0) _ rfl hX Tryz.underlying26 rfl HS.out ?_)
 refine hm.mono ?_
 rintro e w1 ⟨rfl, hR⟩
 have HR := Lib.hid hR
 clear hm q hX hR
 go_wp2_with fail
 go_ret
 exact ⟨rfl, HR.out⟩
theorem read2X [Inhabited RbT] (g : Lx) (A : LA) (lb L2 c1 c2 : Nat) (v : Int) (redo : Bool) (w : World) (h : LogX w lb g A) (ht0 : 0 ≤ g.top) (ht1 : g.top ≤ 2000) (htr : g.top ≤ g.rr.length) (hv0 : -1 ≤ v) (hv1 : v < 4294967296) (hd : g.ds.length ≤ 100000)
  (hL : w.heap[L2]? = some (.cells #[.pointer (some ⟨lb, 0, none⟩)] 42)) (h1 : w.heap[c1]? = some (.cells #[.int .i64 v] 3)) (h2 : w.heap[c2]? = some (.cells #[.bool redo] 4)) :
  Calls Tryz.prog 100 #[.pointer (some ⟨L2, 0, none⟩), .pointer (some ⟨c1, 0, none⟩), .pointer (some ⟨c2, 0, none⟩)] w (Done w lb (moveE g v redo) (moveG g v redo)) := by
 have hm := move_gen g A lb v redo w h ht0 ht1 htr hv0 hv1 hd
 have q : w.cell? ⟨L2, 0, none⟩ = some (.pointer (some ⟨lb, 0, none⟩)) := by rw [cell_of_row _ _ _ _ _ _ hL]; rfl
 have q1 : w.cell? ⟨c1, 0, none⟩ = some (.int .i64 v) := by rw [cell_of_row _ _ _ _ _ _ h1]; rfl
 have q2 : w.cell? ⟨c2, 0, none⟩ = some (.bool redo) := by rw [cell_of_row _ _ _ _ _ _ h2]; rfl
 unfold Moved at hm
 clear hL h1 h2 h ht0 ht1 htr hv0 hv1 hd
 generalize moveE g v redo = EE at *
 generalize moveG g v redo = GE at *
 go_enter Tryz.func100, Tryz.ntmps100
 go_wp2_with fail
 refine hm.mono ?_
 rintro e w1 ⟨rfl, hR⟩
 have HR := Lib.hid hR
 clear hm q q1 q2 hR
 go_wp2_with fail
 go_ret
 exact ⟨rfl, HR.out⟩
theorem read3X [Inhabited RbT] (g : Lx) (A : LA) (lb L2 BX : Nat) (p : Wt) (w : World) (h : LogX w lb g A) (hp : WtIn w p) (hb : WtBl (Bd w lb) p)
  (hL : w.heap[L2]? = some (.cells #[.pointer (some ⟨lb, 0, none⟩)] 42)) (hX : w.heap[BX]? = some (.cells (wtA p) 30)) :
  Calls Tryz.prog 103 #[.pointer (some ⟨BX, 0, none⟩), .pointer (some ⟨L2, 0, none⟩)] w (Done w lb 0 (g.pend p)) := by
 have hm := h.pend p hp hb
 have q : w.cell? ⟨L2, 0, none⟩ = some (.pointer (some ⟨lb, 0, none⟩)) := by rw [cell_of_row _ _ _ _ _ _ hL]; rfl
 have hs : (Tryz.prog.info? 30).map (·.size) = some (wtA p).size := by rw [infoPend5]; rfl
 have h7 : (wtA p).size = 7 := rfl
 have HS := Lib.hid (And.intro hs (And.intro h7 (And.intro (wtA_one p) (And.intro h.there hm))))
 clear hL hs h hp hb h7 hm
 generalize wtA p = RA at *
 go_enter Tryz.func103, Tryz.ntmps103
 go_wp2_with first
  | refine wpList_load_row rfl 30 (.tmp 0) rfl BX RA 30 (0, 0) _ rfl hX Tryz.underlying30 rfl HS.out.1 ?_
  | refine wpList_store_mid rfl 30 (.tmp 6) (.tmp 4) rfl lb 5 RA rfl rfl (by rw [HS.out.2.1]; exact HS.out.2.2.2.1) (by rw [infoPend5, HS.out.2.1]) HS.out.2.2.1 ?_
 go_ret
 exact ⟨rfl, A, HS.out.2.2.2.2⟩
def dropE (g : Lx) : Int := if g.pd.on = true then 0 else 5
def dropG (g : Lx) : Lx := if g.pd.on = true then g.pend wt0 else g
theorem read4X [Inhabited RbT] (g : Lx) (A : LA) (lb L2 : Nat) (w : World) (h : LogX w lb g A) (hL : w.heap[L2]? = some (.cells #[.pointer (some ⟨lb, 0, none⟩)] 42)) :
  Calls Tryz.prog 104 #[.pointer (some ⟨L2, 0, none⟩)] w (Done w lb (dropE g) (dropG g)) := by
 have q : w.cell? ⟨L2, 0, none⟩ = some (.pointer (some ⟨lb, 0, none⟩)) := by rw [cell_of_row _ _ _ _ _ _ hL]; rfl
 have q5 := h.c5
 have hm := h.pend wt0 (wt0_in _) (wt0_bl _)
 rw [← pendA_wt0] at hm
 have HS := Lib.hid (And.intro h (And.intro h.there hm))
 have HE : Hid (dropE g = if g.pd.on = true then 0 else 5) := Lib.hid rfl
 have HG : Hid (dropG g = if g.pd.on = true then g.pend wt0 else g) := Lib.hid rfl
 generalize dropE g = EE at *
 generalize dropG g = GE at *
 clear hL hm h
 cases hon : g.pd.on with
 | false =>
  rw [hon] at q5
  have h1 := HE.out
  have h2 := HG.out
  rw [hon] at h1 h2
  simp only [Bool.false_eq_true, if_false] at h1 h2
  subst h1
  subst h2
  clear hon HE HG
  go_enter Tryz.func104, Tryz.ntmps104
  go_wp2_with fail
  go_ret
  exact ⟨rfl, A, HS.out.1, Upd.refl _ _⟩
 | true =>
  rw [hon] at q5
  have h1 := HE.out
  have h2 := HG.out
  rw [hon] at h1 h2
  simp only [if_true] at h1 h2
  subst h1
  have HG2 := Lib.hid h2
  clear hon HE HG h2
  go_enter Tryz.func104, Tryz.ntmps104
  go_wp2_with first
   | refine wpList_store_mid rfl 30 (.tmp 11) (.tmp 9) rfl lb 5 pendA rfl rfl HS.out.2.1 (by rw [infoPend]; rfl) (by simp [pendA, Value.oneCell']) ?_
  go_ret
  exact ⟨rfl, A, by rw [HG2.out]; exact HS.out.2.2⟩
/-- What Add answers and leaves. -/
def AddP [Inhabited RbT] (w : World) (lb : Nat) (E : Int) (G : Lx) (e : Ending) (w' : World) : Prop := e = .returned (.int .i64 E) ∧ ∃ A', LogX w' lb (if E = 0 then G.cnt else G) A' ∧ Upd (fun q => q = lb) w w'
theorem ks_of {x : Rt} {r : RC} (h : rtC x = r) (hk : r.ks.length ≤ 100000) : x.ks.length ≤ 100000 := by rw [← h] at hk; exact hk
def AddRt [Inhabited RbT] (w : World) (lb : Nat) (g : Lx) (r : RC) (e : Ending) (w' : World) : Prop := ∃ x : Rt, rtC x = r ∧ AddP w lb (addE g x) (addG g x) e w'
def AddWt [Inhabited RbT] (w : World) (lb : Nat) (g : Lx) (r : WC) (e : Ending) (w' : World) : Prop := ∃ x : Wt, x.on = true ∧ wtC x = r ∧ AddP w lb 0 (g.pend x) e w'
theorem addX_no [Inhabited RbT] (g : Lx) (A : LA) (lb : Nat) (a : Option Addr) (c n : Nat) (w : World) (h : LogX w lb g A) (hread : Calls Tryz.prog 57 #[.pointer (some ⟨lb, 0, none⟩), .slice a n c] w (ReadNo w)) :
  Calls Tryz.prog 21 #[.pointer (some ⟨lb, 0, none⟩), .slice a n c] w (AddP w lb 5 g) := by
 have HL := Lib.hid h
 clear h
 go_enter Tryz.func21, Tryz.ntmps21
 go_wp2_with fail
 refine hread.mono ?_
 unfold ReadNo
 rintro e w1 ⟨rfl, hU⟩
 have HZ := Lib.hid (And.intro (HL.out.other hU) (hU.mono (S := fun _ => False) (T := fun q => q = lb) (fun _ _ h => h.elim)))
 clear hread hU
 go_wp2_with fail
 go_ret
 exact ⟨rfl, A, HZ.out⟩
set_option maxHeartbeats 4000000 in
theorem addX_1 [Inhabited RbT] (g : Lx) (A : LA) (lb : Nat) (a : Option Addr) (c n : Nat) (w : World) (r : RC) (h : LogX w lb g A) (hn0 : 0 ≤ g.n) (hn1 : g.n ≤ 100000) (hg : LxB g) (hks : r.ks.length ≤ 100000)
  (hread : Calls Tryz.prog 57 #[.pointer (some ⟨lb, 0, none⟩), .slice a n c] w (DoRoot w lb r)) :
  Calls Tryz.prog 21 #[.pointer (some ⟨lb, 0, none⟩), .slice a n c] w (AddRt w lb g r) := by
 have hlt := h.lt
 have HL := Lib.hid h
 clear h
 go_enter Tryz.func21, Tryz.ntmps21
 go_wp2_with fail
 refine hread.mono ?_
 rintro e w1 ⟨L2, BX, x, rfl, hL, hX, hx, hin, hbl, hU⟩
 have hr1 := read1X g A lb L2 BX x w1 (HL.out.other hU) hg hin (hbl.mono (fun q hq => HL.out.fresh hq.1 hq.2)) (ks_of hx hks) hL hX
 have hn : (addG g x).n = g.n := by unfold addG; split <;> (try split) <;> rfl
 have hw : IntKind.i64.wrap ((addG g x).n + 1) = (addG g x).n + 1 := IntWalk.i64_in _ (by rw [hn]; omega)
 have HU := Lib.hid hU
 have HW := Lib.hid hx
 generalize hEE : addE g x = EE at *
 generalize hGG : addG g x = GE at *
 have HEG := Lib.hid (And.intro hEE hGG)
 clear hread hU hEE hGG hn hL hX hx hin hbl hg hks hlt
 go_wp2_with fail
 refine hr1.mono ?_
 unfold Done
 rintro e w2 ⟨rfl, A', hL2, hU2⟩
 have HL2 := Lib.hid hL2
 have HU2 := Lib.hid ((HU.out.mono (fun _ _ h => h.elim)).trans hU2)
 have q := hL2.c12
 have f := hL2.free 12
 clear hr1 hL2 hU2
 by_cases hE0 : EE = 0
 ·have hz : ((0 : Int) == 0) = true := rfl
  have hfin := HL2.out.cnt
  have HZ := Lib.hid (And.intro hfin.1 (HU2.out.trans hfin.2))
  have HE0 := Lib.hid hE0
  clear hfin
  subst hE0
  clear hz
  go_wp2_with fail
  go_ret
  exact ⟨x, HW.out, by rw [HEG.out.1, HEG.out.2]; exact ⟨rfl, A', by rw [if_pos rfl]; exact HZ.out⟩⟩
 ·have hz : (EE == 0) = false := beq_false_of_ne hE0
  have HE0 := Lib.hid hE0
  clear hE0 q f
  go_wp2_with fail
  go_ret
  exact ⟨x, HW.out, by rw [HEG.out.1, HEG.out.2]; exact ⟨rfl, A', by rw [if_neg HE0.out]; exact ⟨HL2.out, HU2.out⟩⟩⟩
set_option maxHeartbeats 4000000 in
theorem addX_2 [Inhabited RbT] (g : Lx) (A : LA) (lb : Nat) (a : Option Addr) (c n : Nat) (w : World) (v : Int) (redo : Bool) (h : LogX w lb g A) (hn0 : 0 ≤ g.n) (hn1 : g.n ≤ 100000) (ht0 : 0 ≤ g.top) (ht1 : g.top ≤ 2000) (htr : g.top ≤ g.rr.length) (hv0 : -1 ≤ v) (hv1 : v < 4294967296) (hd : g.ds.length ≤ 100000)
  (hread : Calls Tryz.prog 57 #[.pointer (some ⟨lb, 0, none⟩), .slice a n c] w (DoMove w lb v redo)) :
  Calls Tryz.prog 21 #[.pointer (some ⟨lb, 0, none⟩), .slice a n c] w (AddP w lb (moveE g v redo) (moveG g v redo)) := by
 have hlt := h.lt
 have HL := Lib.hid h
 clear h
 go_enter Tryz.func21, Tryz.ntmps21
 go_wp2_with fail
 refine hread.mono ?_
 rintro e w1 ⟨L2, c1, c2, rfl, hL, h1, h2, hU⟩
 have hr1 := read2X g A lb L2 c1 c2 v redo w1 (HL.out.other hU) ht0 ht1 htr hv0 hv1 hd hL h1 h2
 have hn : (moveG g v redo).n = g.n := by unfold moveG; split <;> (try split) <;> rfl
 have hw : IntKind.i64.wrap ((moveG g v redo).n + 1) = (moveG g v redo).n + 1 := IntWalk.i64_in _ (by rw [hn]; omega)
 have HU := Lib.hid hU
 have HW := Lib.hid hL
 generalize hEE : moveE g v redo = EE at *
 generalize hGG : moveG g v redo = GE at *
 have HEG := Lib.hid (And.intro hEE hGG)
 clear hread hU hEE hGG hn hL h1 h2 ht0 ht1 htr hv0 hv1 hd hlt
 go_wp2_with fail
 refine hr1.mono ?_
 unfold Done
 rintro e w2 ⟨rfl, A', hL2, hU2⟩
 have HL2 := Lib.hid hL2
 have HU2 := Lib.hid ((HU.out.mono (fun _ _ h => h.elim)).trans hU2)
 have q := hL2.c12
 have f := hL2.free 12
 clear hr1 hL2 hU2
 by_cases hE0 : EE = 0
 ·have hz : ((0 : Int) == 0) = true := rfl
  have hfin := HL2.out.cnt
  have HZ := Lib.hid (And.intro hfin.1 (HU2.out.trans hfin.2))
  have HE0 := Lib.hid hE0
  clear hfin
  subst hE0
  clear hz
  go_wp2_with fail
  go_ret
  exact ⟨rfl, A', by rw [if_pos rfl]; exact HZ.out⟩
 ·have hz : (EE == 0) = false := beq_false_of_ne hE0
  have HE0 := Lib.hid hE0
  clear hE0 q f
  go_wp2_with fail
  go_ret
  exact ⟨rfl, A', by rw [if_neg HE0.out]; exact ⟨HL2.out, HU2.out⟩⟩
set_option maxHeartbeats 4000000 in
theorem addX_4 [Inhabited RbT] (g : Lx) (A : LA) (lb : Nat) (a : Option Addr) (c n : Nat) (w : World) (h : LogX w lb g A) (hn0 : 0 ≤ g.n) (hn1 : g.n ≤ 100000) 
  (hread : Calls Tryz.prog 57 #[.pointer (some ⟨lb, 0, none⟩), .slice a n c] w (DoDrop w lb)) :
  Calls Tryz.prog 21 #[.pointer (some ⟨lb, 0, none⟩), .slice a n c] w (AddP w lb (dropE g) (dropG g)) := by
 have hlt := h.lt
 have HL := Lib.hid h
 clear h
 go_enter Tryz.func21, Tryz.ntmps21
 go_wp2_with fail
 refine hread.mono ?_
 rintro e w1 ⟨L2, rfl, hL, hU⟩
 have hr1 := read4X g A lb L2 w1 (HL.out.other hU) hL
 have hn : (dropG g).n = g.n := by unfold dropG; split <;> (try split) <;> rfl
 have hw : IntKind.i64.wrap ((dropG g).n + 1) = (dropG g).n + 1 := IntWalk.i64_in _ (by rw [hn]; omega)
 have HU := Lib.hid hU
 have HW := Lib.hid hL
 generalize hEE : dropE g = EE at *
 generalize hGG : dropG g = GE at *
 have HEG := Lib.hid (And.intro hEE hGG)
 clear hread hU hEE hGG hn hL hlt
 go_wp2_with fail
 refine hr1.mono ?_
 unfold Done
 rintro e w2 ⟨rfl, A', hL2, hU2⟩
 have HL2 := Lib.hid hL2
 have HU2 := Lib.hid ((HU.out.mono (fun _ _ h => h.elim)).trans hU2)
 have q := hL2.c12
 have f := hL2.free 12
 clear hr1 hL2 hU2
 by_cases hE0 : EE = 0
 ·have hz : ((0 : Int) == 0) = true := rfl
  have hfin := HL2.out.cnt
  have HZ := Lib.hid (And.intro hfin.1 (HU2.out.trans hfin.2))
  have HE0 := Lib.hid hE0
  clear hfin
  subst hE0
  clear hz
  go_wp2_with fail
  go_ret
  exact ⟨rfl, A', by rw [if_pos rfl]; exact HZ.out⟩
 ·have hz : (EE == 0) = false := beq_false_of_ne hE0
  have HE0 := Lib.hid hE0
  clear hE0 q f
  go_wp2_with fail
  go_ret
  exact ⟨rfl, A', by rw [if_neg HE0.out]; exact ⟨HL2.out, HU2.out⟩⟩
set_option maxHeartbeats 4000000 in
theorem addX_3 [Inhabited RbT] (g : Lx) (A : LA) (lb : Nat) (a : Option Addr) (c n : Nat) (w : World) (r : WC) (h : LogX w lb g A) (hn0 : 0 ≤ g.n) (hn1 : g.n ≤ 100000) 
  (hread : Calls Tryz.prog 57 #[.pointer (some ⟨lb, 0, none⟩), .slice a n c] w (DoWait w lb r)) :
  Calls Tryz.prog 21 #[.pointer (some ⟨lb, 0, none⟩), .slice a n c] w (AddWt w lb g r) := by
 have hlt := h.lt
 have HL := Lib.hid h
 clear h
 go_enter Tryz.func21, Tryz.ntmps21
 go_wp2_with fail
 refine hread.mono ?_
 rintro e w1 ⟨L2, BX, x, rfl, hL, hX, ⟨hon, hx⟩, hin, hbl, hU⟩
 have hr1 := read3X g A lb L2 BX x w1 (HL.out.other hU) hin (hbl.mono (fun q hq => HL.out.fresh hq.1 hq.2)) hL hX
 have hn : (g.pend x).n = g.n := rfl
 have hw : IntKind.i64.wrap ((g.pend x).n + 1) = (g.pend x).n + 1 := IntWalk.i64_in _ (by rw [hn]; omega)
 have HU := Lib.hid hU
 have HW := Lib.hid (And.intro hon hx)
 generalize hGG : g.pend x = GE at *
 have HEG := Lib.hid (And.intro trivial hGG)
 clear hread hU hGG hn hL hX hx hon hin hbl hlt
 go_wp2_with fail
 refine hr1.mono ?_
 unfold Done
 rintro e w2 ⟨rfl, A', hL2, hU2⟩
 have HL2 := Lib.hid hL2
 have HU2 := Lib.hid ((HU.out.mono (fun _ _ h => h.elim)).trans hU2)
 have q := hL2.c12
 have f := hL2.free 12
 clear hr1 hL2 hU2
 have hfin := HL2.out.cnt
 have HZ := Lib.hid (And.intro hfin.1 (HU2.out.trans hfin.2))
 clear hfin
 go_wp2_with fail
 go_ret
 exact ⟨x, HW.out.1, HW.out.2, by rw [HEG.out.2]; exact ⟨rfl, A', by rw [if_pos rfl]; exact HZ.out⟩⟩
end Go.Proofs.YtccejkikphpnfaaGreatDoor
