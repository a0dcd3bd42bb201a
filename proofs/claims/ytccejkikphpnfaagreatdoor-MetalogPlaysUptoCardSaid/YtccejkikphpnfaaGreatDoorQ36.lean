
/- The reference's number. -/
import Derived.Test.YtccejkikphpnfaaGreatDoorQ32
import Derived.Test.YtccejkikphpnfaaGreatDoorQ35
namespace Go.Proofs.YtccejkikphpnfaaGreatDoor
set_option linter.unusedSimpArgs false
set_option linter.unusedVariables false
set_option maxRecDepth 100000
open Go.ChangeShapes Go.WideShapes Go.ChangeAt Go.RowKit
structure RX where
 rr : List Rt
 at_ : Int
 ds : List Int
 pd : Wt
 n : Int
structure RA where
 ra : Option Addr
 rc : Nat
 da : Option Addr
 dc : Nat
def refA (g : RX) (A : RA) : Array Value := #[.slice A.ra g.rr.length A.rc, .int .i64 g.at_, .slice A.da g.ds.length A.dc, .bool g.pd.on, .bool g.pd.re, .int .i64 g.pd.src, .int .i64 g.pd.dst, .slice g.pd.sa g.pd.ss.length g.pd.sc, .int .i64 g.pd.com, .slice g.pd.ca g.pd.cs.length g.pd.cc, .int .i64 g.n]
/-- A block that is there, and neither rb nor lb. -/
def Cd (w : World) (rb lb q : Nat) : Prop := q ≠ rb ∧ q ≠ lb ∧ q < w.heap.size
theorem Cd.up {w w' : World} {rb lb q : Nat} (h : Cd w rb lb q) (hz : w.heap.size ≤ w'.heap.size) : Cd w' rb lb q := ⟨h.1, h.2.1, Nat.lt_of_lt_of_le h.2.2 hz⟩
/-- The document's log stands in block rb; nothing of it in block lb. -/
structure RefX (w : World) (rb lb : Nat) (g : RX) (A : RA) : Prop where
 row : w.heap[rb]? = some (.cells (refA g A) 69)
 rr : w.ownsRow 0 26 5 (.slice A.ra g.rr.length A.rc) g.rr.length (g.rr.flatMap rtV)
 ds : Vw w A.da g.ds.length A.dc 1 (g.ds.map iv)
 n1 : ∀ q, blk A.ra = some q → Cd w rb lb q
 n2 : ∀ q, blk A.da = some q → Cd w rb lb q ∧ blk A.ra ≠ some q
 re : ∀ r ∈ g.rr, RtIn w r ∧ RtBl (fun q => Cd w rb lb q ∧ blk A.ra ≠ some q) r
 pw : WtIn w g.pd ∧ WtBl (fun q => Cd w rb lb q ∧ blk A.ra ≠ some q) g.pd
 ne : rb ≠ lb
 ll : lb < w.heap.size
section
variable {w w' : World} {rb lb : Nat} {g : RX} {A : RA}
theorem RefX.lt (h : RefX w rb lb g A) : rb < w.heap.size := lt_of_heap h.row
theorem RefX.updS {S : Nat → Prop} (h : RefX w rb lb g A) (hU : Upd S w w') (hr : ¬ S rb) (hS : ∀ q, Cd w rb lb q → ¬ S q) : RefX w' rb lb g A :=
 ⟨(hU.block rb h.lt hr).trans h.row, ownsRow_upd h.rr hU (fun q hq => hS q (h.n1 q ((own_blk _ _ _).symm.trans hq))), h.ds.upd hU (fun q hq => hS q (h.n2 q hq).1), fun q hq => (h.n1 q hq).up hU.size, fun q hq => ⟨(h.n2 q hq).1.up hU.size, (h.n2 q hq).2⟩,
  fun r hr => ⟨(h.re r hr).1.updS ((h.re r hr).2.mono (fun q hq => hS q hq.1)) hU, (h.re r hr).2.mono (fun q hq => ⟨hq.1.up hU.size, hq.2⟩)⟩, ⟨h.pw.1.updS (h.pw.2.mono (fun q hq => hS q hq.1)) hU, h.pw.2.mono (fun q hq => ⟨hq.1.up hU.size, hq.2⟩)⟩, h.ne, Nat.lt_of_lt_of_le h.ll hU.size⟩
theorem RefX.other (h : RefX w rb lb g A) (hU : Upd (fun _ => False) w w') : RefX w' rb lb g A := h.updS hU (fun h => h) (fun _ _ h => h)
/-- What the other log does. -/
theorem RefX.log (h : RefX w rb lb g A) (hU : Upd (fun q => q = lb) w w') : RefX w' rb lb g A := h.updS hU h.ne (fun q hq => hq.2.1)
theorem RefX.c0 (h : RefX w rb lb g A) : w.cell? ⟨rb, 0, none⟩ = some (.slice A.ra g.rr.length A.rc) := by rw [cell_of_row _ _ _ _ _ _ h.row]; rfl
theorem RefX.c1 (h : RefX w rb lb g A) : w.cell? ⟨rb, 1, none⟩ = some (.int .i64 g.at_) := by rw [cell_of_row _ _ _ _ _ _ h.row]; rfl
theorem RefX.c2 (h : RefX w rb lb g A) : w.cell? ⟨rb, 2, none⟩ = some (.slice A.da g.ds.length A.dc) := by rw [cell_of_row _ _ _ _ _ _ h.row]; rfl
theorem RefX.c3 (h : RefX w rb lb g A) : w.cell? ⟨rb, 3, none⟩ = some (.bool g.pd.on) := by rw [cell_of_row _ _ _ _ _ _ h.row]; rfl
theorem RefX.c10 (h : RefX w rb lb g A) : w.cell? ⟨rb, 10, none⟩ = some (.int .i64 g.n) := by rw [cell_of_row _ _ _ _ _ _ h.row]; rfl
theorem RefX.rv (h : RefX w rb lb g A) : Vw w A.ra g.rr.length A.rc 5 (g.rr.flatMap rtV) := Vw.of_own h.rr
theorem RefX.free (h : RefX w rb lb g A) (j : Nat) : w.frozen? ⟨rb, j, none⟩ = false := free_row h.row
end
theorem rt_get1 (rr : List Rt) (i : Nat) (x : Rt) (hx : rr[i]? = some x) : (rr.flatMap rtV)[i * 5 + 1]? = some (.slice x.ca x.ks.length x.cc) := by
 rw [flatMap_get rtV 5 rtV_len rr i 1 (by decide), hx]; rfl
theorem vw_one {w : World} {g : Nat} {X : Array Value} {T : TypeId} (h : w.heap[g]? = some (.cells X T)) : Vw w (some ⟨g, 0, none⟩) 1 1 X.size X.toList := by
 refine ⟨by simp, Nat.le_refl _, by decide, (fun h => by cases h), fun y hy j u hu => ?_⟩
 cases hy
 have ha : (Addr.add ⟨g, 0, none⟩ j) = ⟨g, j, none⟩ := by unfold Addr.add; split <;> simp_all
 rw [ha, cell_of_row _ _ _ _ _ _ h]
 simpa using hu
/-- What a line is when it is told. -/
def LinedV (w : World) (L : List Int) (e : Ending) (w' : World) : Prop := ∃ a c, e = .returned (.slice a L.length c) ∧ Vw w' a L.length c 1 (L.reverse.map iv) ∧ Upd (fun _ => False) w w'
set_option maxHeartbeats 4000000 in
theorem rLine_any (g : RX) (A : RA) (rb lb : Nat) (L : List Int) (w : World) (h : RefX w rb lb g A) (hch : ChainI (g.rr.map (·.p)) g.at_ L) (hL : L.length ≤ 100000) :
  Calls Tryz.prog 37 #[.pointer (some ⟨rb, 0, none⟩)] w (LinedV w L) := by
 have HL := Lib.hid h
 have HCH := Lib.hid hch
 have q1 := h.c1
 have hcap := h.rv.cap
 have hlr := h.rv.le
 unfold maxLen at hcap
 clear h hch
 generalize hgt : g.at_ = at0 at *
 go_enter Tryz.func37, Tryz.ntmps37
 go_wp2_with fail
 clear q1
 go_loopw [3, 4] (fun o i wr => ∃ (D R : List Int) (a' : Option Addr) (c' : Nat) (v : Int), Hid (D ++ R = L ∧ ChainI (g.rr.map (·.p)) v R) ∧ o = .slice a' D.length c' ∧ i = .int .i64 v ∧ Hid (Vw wr a' D.length c' 1 (D.reverse.map iv) ∧ Upd (fun _ => False) w wr)) (fun o _ _ => L.length - (match o with | .slice _ n _ => n | _ => 0))
 case atStart => exact ⟨[], L, none, 0, at0, Lib.hid ⟨rfl, HCH.out⟩, rfl, rfl, Lib.hid ⟨Vw.nl _ _, Upd.refl _ _⟩⟩
 case round =>
  clear HCH
  obtain ⟨D, R, a', c', v, HC, rfl, rfl, HI⟩ := hrel
  cases R with
  | nil =>
   have hv : v < 0 := HC.out.2
   have hI : decide ((0 : Int) ≤ v) = false := by rw [decide_eq_false_iff_not]; omega
   have hDL : D = L := by have := HC.out.1; rwa [List.append_nil] at this
   subst hDL
   have HF := Lib.hid HI.out
   clear HC HI
   go_wp2_with fail
   go_ret
   exact ⟨a', c', rfl, HF.out.1, HF.out.2⟩
  | cons j R =>
   obtain ⟨hDR, hjv, h0, p, hp, hch⟩ := HC.out
   subst hjv
   obtain ⟨x, hx, hxp⟩ : ∃ x, g.rr[j.toNat]? = some x ∧ x.p = p := by
    rw [List.getElem?_map] at hp
    cases hq : g.rr[j.toNat]? with
    | none => rw [hq] at hp; cases hp
    | some x => rw [hq] at hp; exact ⟨x, rfl, Option.some.inj hp⟩
   subst hxp
   have hlen := (List.getElem?_eq_some_iff.1 hx).1
   have hDl : D.length ≤ 100000 := by have := congrArg List.length hDR; rw [List.length_append] at this; omega
   have hI2 : j < (g.rr.length : Int) := by omega
   have HX := Lib.hid (And.intro hDR (And.intro hx hch))
   have hmeas : D.length < L.length := by rw [← hDR, List.length_append, List.length_cons]; omega
   obtain ⟨i0, hi, hz0, hz1, hz2⟩ := info_parts4 infoIntZ
   have HIX := Lib.hid (And.intro hi (And.intro hz0 (And.intro hz1 hz2)))
   clear hi hz0 hz1 hz2 hDR hx hch HC hp
   have hUa := Upd.alloc (fun _ => False) wr (.cells #[.int .i64 j] 3)
   have hv1 : Vw (wr.alloc (.cells #[.int .i64 j] 3)) (some ⟨wr.heap.size, 0, none⟩) 1 1 1 [iv j] := vw_one (X := #[.int .i64 j]) (heap_alloc_new wr _)
   have hsrc := (HI.out.1.upd hUa (fun _ _ h => h)).src (P := Tryz.prog) (t := 49) Tryz.underlying49 (one_I D.reverse)
   go_upto_region 5 with (fail)
   go_wp2_with (at_builtin; refine wpList_appV2 _ rfl (.tmp 20) (.tmp 21) 49 49 rfl 3 i0 (.int .i64 0) 1 8 Tryz.underlying49 HIX.out.1 HIX.out.2.1 HIX.out.2.2.1 HIX.out.2.2.2 rfl (some ⟨wr.heap.size, 0, none⟩) 1 [iv j] rfl hv1 (.slice a' D.length c') D.length (D.reverse.map iv) rfl hsrc ?_ ?_ ?_)
   ·unfold maxLen; omega
   ·omega
   intro a8 c8 w8 hv8 hU8 hf8
   have hUw : Upd (fun _ => False) w w8 := (HI.out.2.trans hUa).trans hU8
   have hLw8 := HL.out.other hUw
   obtain ⟨b2, o2, hb2, hcell2⟩ := hLw8.rv.at (by show 0 < g.rr.length; omega) (by decide)
   have q0 := hLw8.c0
   rw [hb2] at q0
   have hq := hcell2 (j.toNat * 5 + 0) _ (rt_get g.rr j.toNat x HX.out.2.1)
   rw [Nat.add_zero] at hq
   have hl8 : 1 + D.length = (D ++ [j]).length := by simp; omega
   have hv9 : Vw w8 a8 (D ++ [j]).length c8 1 ((D ++ [j]).reverse.map iv) := by rw [← hl8]; simpa [iv] using hv8
   have HN := Lib.hid (And.intro hv9 hUw)
   clear hv8 hU8 hf8 hUw hLw8 hcell2 hUa hv1 hsrc hb2 hv9 HI
   go_wp2_with fail
   go_roundw
   case rel => exact ⟨D ++ [j], R, a8, c8, x.p, Lib.hid ⟨by rw [← HX.out.1]; simp, HX.out.2.2⟩, by rw [hl8], rfl, HN⟩
   case measure => simp; omega
/-- How many commits stand in the first j roots. -/
def FSum (rr : List Rt) (j : Nat) : Nat := ((rr.take j).flatMap (·.ks)).length
theorem FSum_succ (rr : List Rt) (j : Nat) (x : Rt) (hx : rr[j]? = some x) : FSum rr (j + 1) = FSum rr j + x.ks.length := by
 obtain ⟨hj, rfl⟩ := List.getElem?_eq_some_iff.1 hx
 unfold FSum
 rw [List.take_succ_eq_append_getElem hj, List.flatMap_append, List.length_append]
 simp
theorem FSum_le (rr : List Rt) (j : Nat) : FSum rr j ≤ (rr.flatMap (·.ks)).length := by
 unfold FSum
 conv => rhs; rw [← List.take_append_drop j rr, List.flatMap_append, List.length_append]
 omega
def firstR (rr : List Rt) (i : Int) : Int := if 0 ≤ i ∧ i < (rr.length : Int) then ((FSum rr i.toNat : Nat) : Int) else 0
set_option maxHeartbeats 4000000 in
theorem rFirst_any (g : RX) (A : RA) (rb lb : Nat) (i : Int) (w : World) (h : RefX w rb lb g A) (hs : (g.rr.flatMap (·.ks)).length ≤ 100000) :
  Calls Tryz.prog 40 #[.pointer (some ⟨rb, 0, none⟩), .int .i64 i] w fun e w' => e = .returned (.int .i64 (firstR g.rr i)) ∧ Upd (fun _ => False) w w' := by
 have q0 := h.c0
 have HL := Lib.hid h
 have hcap := h.rv.cap
 have hlr := h.rv.le
 unfold maxLen at hcap
 have HS := Lib.hid hs
 clear h hs
 have HF : Hid (firstR g.rr i = if 0 ≤ i ∧ i < (g.rr.length : Int) then ((FSum g.rr i.toNat : Nat) : Int) else 0) := Lib.hid rfl
 generalize firstR g.rr i = R at *
 have hz0 : FSum g.rr 0 = 0 := by simp [FSum]
 have HZ0 := Lib.hid hz0
 clear hz0
 go_enter Tryz.func40, Tryz.ntmps40
 go_wp2_with fail
 go_loopw [5, 6] (fun n k wr => ∃ j : Nat, j ≤ g.rr.length ∧ Hid (j = 0 ∨ (j : Int) ≤ i) ∧ n = .int .i64 (FSum g.rr j : Nat) ∧ k = .int .i64 (j : Int) ∧ wr = w) (fun _ k _ => g.rr.length - (intOf k).toNat)
 case atStart => exact ⟨0, Nat.zero_le _, Lib.hid (.inl rfl), by rw [HZ0.out]; rfl, rfl, rfl⟩
 case round =>
  obtain ⟨j, hj, HJ, rfl, rfl, rfl⟩ := hrel
  by_cases hji : (j : Int) < i
  ·by_cases hjl : j < g.rr.length
   ·have hI : decide ((j : Int) < i) = true := decide_eq_true hji
    have hI2 : (j : Int) < (g.rr.length : Int) := by omega
    have hI3 : (0 : Int) ≤ (j : Int) := by omega
    obtain ⟨x, hx⟩ : ∃ x, g.rr[j]? = some x := ⟨_, List.getElem?_eq_getElem hjl⟩
    have hsu := FSum_succ g.rr j x hx
    have hle := FSum_le g.rr (j + 1)
    have hlx := HS.out
    obtain ⟨b, o, hb, hcell⟩ := HL.out.rv.at (by omega) (by decide)
    have hq := hcell (j * 5 + 1) _ (rt_get1 g.rr j x hx)
    rw [← Nat.add_assoc] at hq
    rw [hb] at q0
    have HSU := Lib.hid hsu
    have hw : IntKind.i64.wrap ((FSum g.rr j : Nat) + (x.ks.length : Int)) = (FSum g.rr j : Nat) + (x.ks.length : Int) := IntWalk.i64_in _ (by omega)
    clear hcell hb hx hsu hle
    generalize FSum g.rr j = f at *
    go_wp2_with fail
    go_roundw
    case rel => exact ⟨j + 1, by omega, Lib.hid (.inr (by omega)), by rw [HSU.out]; first | rfl | (rw [hw]; rfl) | go_num, by first | rfl | go_num, by first | rfl | trivial⟩
    case measure => simp [intOf]; omega
   ·obtain rfl : j = g.rr.length := by omega
    have hI : decide ((g.rr.length : Int) < i) = true := decide_eq_true hji
    have hR : Hid (R = 0) := Lib.hid (by rw [HF.out, if_neg (by omega)])
    have hI4 : decide ((g.rr.length : Int) ≤ i) = true := decide_eq_true (by omega)
    have hI5 : decide (i < 0) = false := decide_eq_false (by omega)
    clear HF hji
    go_wp2_with fail
    go_ret
    exact ⟨by rw [hR.out]; rfl, Upd.refl _ _⟩
  ·have hI : decide ((j : Int) < i) = false := decide_eq_false hji
   by_cases h0 : i < 0
   ·have hI5 : decide (i < 0) = true := decide_eq_true h0
    have hR : Hid (R = 0) := Lib.hid (by rw [HF.out, if_neg (by omega)])
    clear HF hji
    go_wp2_with fail
    go_ret
    exact ⟨by rw [hR.out]; rfl, Upd.refl _ _⟩
   ·have hI5 : decide (i < 0) = false := decide_eq_false h0
    have hij : i = (j : Int) := by have := HJ.out; omega
    subst hij
    by_cases h1 : (g.rr.length : Int) ≤ (j : Int)
    ·have hI4 : decide ((g.rr.length : Int) ≤ (j : Int)) = true := decide_eq_true h1
     have hR : Hid (R = 0) := Lib.hid (by rw [HF.out, if_neg (by omega)])
     clear HF hji
     go_wp2_with fail
     go_ret
     exact ⟨by rw [hR.out]; rfl, Upd.refl _ _⟩
    ·have hI4 : decide ((g.rr.length : Int) ≤ (j : Int)) = false := decide_eq_false h1
     have hR : Hid (R = (FSum g.rr j : Nat)) := Lib.hid (by rw [HF.out, if_pos (by omega), Int.toNat_natCast])
     clear HF hji
     go_wp2_with fail
     go_ret
     exact ⟨by rw [hR.out]; rfl, Upd.refl _ _⟩
/-- The log in the mind, but for the count, is this one. -/
structure Twin (m : MS) (g : RX) : Prop where
 rr : m.rr = g.rr.map rtC
 top : m.top = g.at_ + 1
 ds : m.ds = g.ds
 on : m.on = g.pd.on
 wc : m.wc = wtC g.pd
section
variable {w w' w8 : World} {rb lb : Nat} {g g' : RX} {A A' : RA}
theorem ref_there (g : RX) (A : RA) (j : Nat) (hj : j < 7) : ∃ v, (refA g A)[3 + j]? = some v := by
 refine ⟨(refA g A)[3 + j]'(by show 3 + j < 11; omega), Array.getElem?_eq_getElem _⟩
theorem RefX.there (h : RefX w rb lb g A) : w.there rb 3 7 := fun j hj => by
 refine ⟨?_, h.free _⟩
 obtain ⟨v, hv⟩ := ref_there g A j hj
 rw [cell_of_row _ _ _ _ _ _ h.row, hv]
 rfl
/-- A number is set. -/
theorem RefX.putI (h : RefX w rb lb g A) (j : Nat) (u : Value) (hc : (refA g A).setIfInBounds j u = refA g' A) (hr : g'.rr = g.rr) (hd : g'.ds = g.ds) (hp : g'.pd = g.pd) :
  RefX (w.setCell ⟨rb, j, none⟩ u) rb lb g' A ∧ Upd (fun q => q = rb) w (w.setCell ⟨rb, j, none⟩ u) := by
 have hst := Upd.setCell (S := fun q => q = rb) w (p := ⟨rb, j, none⟩) rfl u
 obtain ⟨rr, at_, ds, pd, n⟩ := g'
 dsimp only at hr hd hp
 subst hr hd hp
 refine ⟨⟨by rw [setCell_heap j u h.row, hc], ownsRow_upd h.rr hst (fun q hq => (h.n1 q ((own_blk _ _ _).symm.trans hq)).1), h.ds.upd hst (fun q hq => (h.n2 q hq).1.1), fun q hq => (h.n1 q hq).up hst.size, fun q hq => ⟨(h.n2 q hq).1.up hst.size, (h.n2 q hq).2⟩,
  fun r hr => ⟨(h.re r hr).1.updS ((h.re r hr).2.mono (fun q hq => hq.1.1)) hst, (h.re r hr).2.mono (fun q hq => ⟨hq.1.up hst.size, hq.2⟩)⟩, ⟨h.pw.1.updS (h.pw.2.mono (fun q hq => hq.1.1)) hst, h.pw.2.mono (fun q hq => ⟨hq.1.up hst.size, hq.2⟩)⟩, h.ne, Nat.lt_of_lt_of_le h.ll hst.size⟩, hst⟩
/-- Redos are set. -/
theorem RefX.putD (h : RefX w rb lb g A) (a' : Option Addr) (c' : Nat) (l : List Int) (hv : Vw w a' l.length c' 1 (l.map iv)) (hb : ∀ q, blk a' = some q → Cd w rb lb q ∧ blk A.ra ≠ some q) :
  RefX (w.setCell ⟨rb, 2, none⟩ (.slice a' l.length c')) rb lb ⟨g.rr, g.at_, l, g.pd, g.n⟩ ⟨A.ra, A.rc, a', c'⟩ ∧ Upd (fun q => q = rb) w (w.setCell ⟨rb, 2, none⟩ (.slice a' l.length c')) := by
 have hst := Upd.setCell (S := fun q => q = rb) w (p := ⟨rb, 2, none⟩) rfl (.slice a' l.length c')
 refine ⟨⟨by rw [setCell_heap 2 _ h.row]; simp [refA], ownsRow_upd h.rr hst (fun q hq => (h.n1 q ((own_blk _ _ _).symm.trans hq)).1), hv.upd hst (fun q hq => (hb q hq).1.1), fun q hq => (h.n1 q hq).up hst.size, fun q hq => ⟨(hb q hq).1.up hst.size, (hb q hq).2⟩,
  fun r hr => ⟨(h.re r hr).1.updS ((h.re r hr).2.mono (fun q hq => hq.1.1)) hst, (h.re r hr).2.mono (fun q hq => ⟨hq.1.up hst.size, hq.2⟩)⟩, ⟨h.pw.1.updS (h.pw.2.mono (fun q hq => hq.1.1)) hst, h.pw.2.mono (fun q hq => ⟨hq.1.up hst.size, hq.2⟩)⟩, h.ne, Nat.lt_of_lt_of_le h.ll hst.size⟩, hst⟩
/-- What waits is set. -/
theorem RefX.putP (h : RefX w rb lb g A) (p : Wt) (hp : WtIn w p) (hb : WtBl (fun q => Cd w rb lb q ∧ blk A.ra ≠ some q) p) :
  RefX (w.setCells rb 3 (wtA p).toList) rb lb ⟨g.rr, g.at_, g.ds, p, g.n⟩ A ∧ Upd (fun q => q = rb) w (w.setCells rb 3 (wtA p).toList) := by
 have hst := Upd.setCells (S := fun q => q = rb) rfl (wtA p).toList 3 w
 have hrow : (w.setCells rb 3 (wtA p).toList).heap[rb]? = some (.cells (refA ⟨g.rr, g.at_, g.ds, p, g.n⟩ A) 69) := by
  have h0 := setCell_heap 3 (.bool p.on) h.row
  have h1 := setCell_heap 4 (.bool p.re) h0
  have h2 := setCell_heap 5 (.int .i64 p.src) h1
  have h3 := setCell_heap 6 (.int .i64 p.dst) h2
  have h4 := setCell_heap 7 (.slice p.sa p.ss.length p.sc) h3
  have h5 := setCell_heap 8 (.int .i64 p.com) h4
  have h6 := setCell_heap 9 (.slice p.ca p.cs.length p.cc) h5
  have e : (w.setCells rb 3 (wtA p).toList) = (((((((w.setCell ⟨rb, 3, none⟩ (.bool p.on)).setCell ⟨rb, 4, none⟩ (.bool p.re)).setCell ⟨rb, 5, none⟩ (.int .i64 p.src)).setCell ⟨rb, 6, none⟩ (.int .i64 p.dst)).setCell ⟨rb, 7, none⟩ (.slice p.sa p.ss.length p.sc)).setCell ⟨rb, 8, none⟩ (.int .i64 p.com)).setCell ⟨rb, 9, none⟩ (.slice p.ca p.cs.length p.cc)) := rfl
  rw [e, h6]
  simp [refA]
 exact ⟨⟨hrow, ownsRow_upd h.rr hst (fun q hq => (h.n1 q ((own_blk _ _ _).symm.trans hq)).1), h.ds.upd hst (fun q hq => (h.n2 q hq).1.1), fun q hq => (h.n1 q hq).up hst.size, fun q hq => ⟨(h.n2 q hq).1.up hst.size, (h.n2 q hq).2⟩,
  fun r hr => ⟨(h.re r hr).1.updS ((h.re r hr).2.mono (fun q hq => hq.1.1)) hst, (h.re r hr).2.mono (fun q hq => ⟨hq.1.up hst.size, hq.2⟩)⟩, ⟨hp.updS (hb.mono (fun q hq => hq.1.1)) hst, hb.mono (fun q hq => ⟨hq.1.up hst.size, hq.2⟩)⟩, h.ne, Nat.lt_of_lt_of_le h.ll hst.size⟩, hst⟩
/-- A root is appended (in place, or in a new block). -/
theorem RefX.addR (h : RefX w rb lb g A) (x : Rt) (hx : RtIn w x) (hb : RtBl (fun q => Cd w rb lb q ∧ blk A.ra ≠ some q) x) (o : Obj) {a8 : Option Addr} {c8 : Nat} (hown : w8.ownsRow 0 26 5 (.slice a8 (g.rr.length + 1) c8) (g.rr.length + 1) (g.rr.flatMap rtV ++ rtV x))
  (hg : (w.alloc o).grownBy w8 (blk A.ra)) (hat : blk a8 = blk A.ra ∨ blk a8 = some (w.alloc o).heap.size) :
  RefX (w8.setCell ⟨rb, 0, none⟩ (.slice a8 (g.rr.length + 1) c8)) rb lb ⟨g.rr ++ [x], g.at_, g.ds, g.pd, g.n⟩ ⟨a8, c8, A.da, A.dc⟩ ∧ Upd (fun q => q = rb ∨ blk A.ra = some q) w (w8.setCell ⟨rb, 0, none⟩ (.slice a8 (g.rr.length + 1) c8)) ∧
   (∀ q, blk a8 = some q → blk A.ra = some q ∨ w.heap.size ≤ q) ∧ w8.cell? ⟨rb, 0, none⟩ = some (.slice A.ra g.rr.length A.rc) ∧ w8.frozen? ⟨rb, 0, none⟩ = false := by
 have hlt := h.lt
 have hUa := Upd.alloc (fun _ => False) w o
 have hUg := Upd.grown (S := fun k => blk A.ra = some k) hg (fun k hk => hk)
 have hU8 : Upd (fun q => blk A.ra = some q) w w8 := (hUa.mono (fun _ _ e => e.elim)).next hUg (fun i hi e => e)
 have hz := hUa.size
 have hst := Upd.setCell (S := fun q => q = rb) w8 (p := ⟨rb, 0, none⟩) rfl (.slice a8 (g.rr.length + 1) c8)
 have hall : Upd (fun q => q = rb ∨ blk A.ra = some q) w (w8.setCell ⟨rb, 0, none⟩ (.slice a8 (g.rr.length + 1) c8)) := (hU8.mono (fun _ _ e => .inr e)).trans (hst.mono (fun _ _ e => .inl e))
 have hrow8 := (hU8.block rb hlt (fun e => (h.n1 rb e).1 rfl)).trans h.row
 have hf8 : ∀ q, blk a8 = some q → blk A.ra = some q ∨ w.heap.size ≤ q := fun q hq => by
  rcases hat with e | e
  ·exact .inl (e.symm.trans hq)
  ·rw [e] at hq; cases hq; exact .inr hz
 have hn8 : ∀ q, Cd w rb lb q → blk A.ra ≠ some q → blk a8 ≠ some q := fun q h1 h2 h3 => by
  rcases hf8 q h3 with e | e
  ·exact h2 e
  ·have := h1.2.2; omega
 have hlen : (g.rr ++ [x]).length = g.rr.length + 1 := by simp
 have ho8 : w8.ownsRow 0 26 5 (.slice a8 (g.rr ++ [x]).length c8) (g.rr ++ [x]).length ((g.rr ++ [x]).flatMap rtV) := by rw [hlen]; simpa using hown
 have hlt8 := hown.lt
 have hlb := h.ll
 have hkeep : ∀ q, Cd w rb lb q ∧ blk A.ra ≠ some q → ¬ (q = rb ∨ blk A.ra = some q) := fun q hq e => e.elim hq.1.1 hq.2
 have hup : ∀ q, Cd w rb lb q ∧ blk A.ra ≠ some q → Cd (w8.setCell ⟨rb, 0, none⟩ (.slice a8 (g.rr.length + 1) c8)) rb lb q ∧ blk a8 ≠ some q := fun q hq => ⟨hq.1.up hall.size, hn8 q hq.1 hq.2⟩
 refine ⟨⟨?_, ?_, h.ds.upd hall (fun q hq => hkeep q (h.n2 q hq)), fun q hq => ?_, fun q hq => hup q (h.n2 q hq), fun r hr => ?_, ⟨h.pw.1.updS (h.pw.2.mono hkeep) hall, h.pw.2.mono hup⟩, h.ne, Nat.lt_of_lt_of_le h.ll hall.size⟩, hall, hf8, ?_, free_row hrow8⟩
 ·rw [setCell_heap 0 _ hrow8]; simp [refA]
 ·refine ownsRow_upd ho8 hst (fun q hq e => ?_)
  rw [own_blk] at hq
  rcases hf8 q hq with e2 | e2
  ·exact (h.n1 q e2).1 e
  ·omega
 ·rcases hf8 q hq with e | e
  ·exact (h.n1 q e).up hall.size
  ·refine ⟨by omega, by omega, ?_⟩
   have h8 := (hlt8 q ((own_blk _ _ _).trans hq)).2
   have h9 := hst.size
   omega
 ·rcases List.mem_append.1 hr with hr | hr
  ·exact ⟨(h.re r hr).1.updS ((h.re r hr).2.mono hkeep) hall, (h.re r hr).2.mono hup⟩
  ·rw [List.mem_singleton] at hr
   subst hr
   exact ⟨hx.updS (hb.mono hkeep) hall, hb.mono hup⟩
 ·rw [cell_of_row _ _ _ _ _ _ hrow8]; rfl
end
theorem rnumber_any (v : Int) (w : World) : Calls Tryz.prog 85 #[.int .i64 v] w fun e w' => e = .returned (.bool (numB v)) ∧ w = w' := by
 have hD : numB v = (decide (-1 ≤ v) && decide (v ≤ 1999)) := rfl
 have HD := Lib.hid hD
 clear hD
 by_cases h1 : -1 ≤ v
 ·by_cases h2 : v < 2000
  ·have HR : Hid (numB v = true) := Lib.hid (by rw [HD.out, decide_eq_true h1, decide_eq_true (show v ≤ 1999 by omega)]; rfl)
   have hI : decide (v < 2000) = true := decide_eq_true h2
   go_enter Tryz.func85, Tryz.ntmps85
   go_wp2
   go_ret
   exact ⟨by rw [HR.out]; rfl, rfl⟩
  ·have HR : Hid (numB v = false) := Lib.hid (by rw [HD.out, decide_eq_false (show ¬ v ≤ 1999 by omega)]; simp)
   have hI : decide (v < 2000) = false := decide_eq_false h2
   go_enter Tryz.func85, Tryz.ntmps85
   go_wp2
   go_ret
   exact ⟨by rw [HR.out]; rfl, rfl⟩
 ·have HR : Hid (numB v = false) := Lib.hid (by rw [HD.out, decide_eq_false h1]; rfl)
  have hI : decide (-1 ≤ v) = false := decide_eq_false h1
  go_enter Tryz.func85, Tryz.ntmps85
  go_wp2
  go_ret
  exact ⟨by rw [HR.out]; rfl, rfl⟩
end Go.Proofs.YtccejkikphpnfaaGreatDoor
