
/- read of a move's record, of a drop's and of none, in general. -/
import Derived.Test.YtccejkikphpnfaaGreatDoorQ28
namespace Go.Proofs.YtccejkikphpnfaaGreatDoor
set_option linter.unusedSimpArgs false
set_option linter.unusedVariables false
set_option maxRecDepth 100000
open Go.ChangeShapes Go.WideShapes Go.ChangeAt Go.RowKit
/-- In the middle of reading a move. -/
structure MMs (w : World) (br BR L2 lb : Nat) (F : Option Nat) (l : RS) (o1 o2 : Option Nat) (v1 : Int) (v2 : Bool) (wk : World) : Prop where
 rd : Rd wk br F l.l l.e
 row : wk.heap[BR]? = some (.cells #[.pointer (some ⟨br, 0, none⟩)] 139)
 l2 : wk.heap[L2]? = some (.cells #[.pointer (some ⟨lb, 0, none⟩)] 42)
 b1 : ∀ b, o1 = some b → wk.heap[b]? = some (.cells #[.int .i64 v1] 3) ∧ BR < b
 b2 : ∀ b, o2 = some b → wk.heap[b]? = some (.cells #[.bool v2] 4) ∧ BR < b
 ne : ∀ x y, o1 = some x → o2 = some y → x ≠ y
 upd : Upd (fun _ => False) w wk
 n1 : br < BR
 n2 : L2 < br
 n3 : ∀ g, F = some g → L2 < g ∧ g < BR
 n4 : w.heap.size ≤ L2
section
variable {w : World} {br BR L2 lb : Nat} {F : Option Nat} {l l' : RS} {o1 o2 : Option Nat} {v1 : Int} {v2 : Bool} {wk w' : World}
theorem MMs.q (h : MMs w br BR L2 lb F l o1 o2 v1 v2 wk) : wk.cell? ⟨BR, 0, none⟩ = some (.pointer (some ⟨br, 0, none⟩)) := by rw [cell_of_row _ _ _ _ _ _ h.row]; rfl
theorem MMs.read (h : MMs w br BR L2 lb F l o1 o2 v1 v2 wk) (hR : Rd w' br F l'.l l'.e) (hU : Upd (fun k => k = br) wk w') : MMs w br BR L2 lb F l' o1 o2 v1 v2 w' := by
 have h1 := h.n1; have h2 := h.n2; have h4 := h.n4
 exact ⟨hR, (hU.block BR (lt_of_heap h.row) (by omega)).trans h.row, (hU.block L2 (lt_of_heap h.l2) (by omega)).trans h.l2,
  fun b hb => ⟨(hU.block b (lt_of_heap (h.b1 b hb).1) (by have := (h.b1 b hb).2; omega)).trans (h.b1 b hb).1, (h.b1 b hb).2⟩,
  fun b hb => ⟨(hU.block b (lt_of_heap (h.b2 b hb).1) (by have := (h.b2 b hb).2; omega)).trans (h.b2 b hb).1, (h.b2 b hb).2⟩, h.ne, h.upd.next hU (fun i hi e => by omega), h1, h2, h.n3, h4⟩
theorem MMs.same (h : MMs w br BR L2 lb F l o1 o2 v1 v2 wk) (hU : Upd (fun _ => False) wk w') : MMs w br BR L2 lb F l o1 o2 v1 v2 w' :=
 h.read (h.rd.upd hU (fun h => h) (fun _ _ h => h)) (hU.mono (fun _ _ h => h.elim))
theorem MMs.al1 (h : MMs w br BR L2 lb F l none o2 v1 v2 wk) : MMs w br BR L2 lb F l (some wk.heap.size) o2 0 v2 (wk.alloc (.cells #[.int .i64 0] 3)) := by
 have hs := h.same (Upd.alloc (fun _ => False) wk (.cells #[.int .i64 0] 3))
 exact ⟨hs.rd, hs.row, hs.l2, fun b hb => by cases hb; exact ⟨heap_alloc_new _ _, lt_of_heap h.row⟩, hs.b2, fun x y hx hy => by cases hx; have := lt_of_heap (h.b2 y hy).1; omega, hs.upd, h.n1, h.n2, h.n3, h.n4⟩
theorem MMs.al2 (h : MMs w br BR L2 lb F l o1 none v1 v2 wk) : MMs w br BR L2 lb F l o1 (some wk.heap.size) v1 false (wk.alloc (.cells #[.bool false] 4)) := by
 have hs := h.same (Upd.alloc (fun _ => False) wk (.cells #[.bool false] 4))
 exact ⟨hs.rd, hs.row, hs.l2, hs.b1, fun b hb => by cases hb; exact ⟨heap_alloc_new _ _, lt_of_heap h.row⟩, fun x y hx hy => by cases hy; have := lt_of_heap (h.b1 x hx).1; omega, hs.upd, h.n1, h.n2, h.n3, h.n4⟩
theorem MMs.set (h : MMs w br BR L2 lb F l o1 o2 v1 v2 wk) (b : Nat) (u : Value) (hb : BR < b) (h1 : ∀ x, o1 = some x → x ≠ b) (h2 : ∀ x, o2 = some x → x ≠ b) : MMs w br BR L2 lb F l o1 o2 v1 v2 (wk.setCell ⟨b, 0, none⟩ u) := by
 have hU := Upd.setCell (S := fun k => k = b) wk (p := ⟨b, 0, none⟩) rfl u
 have n1 := h.n1; have n2 := h.n2; have n4 := h.n4
 exact ⟨h.rd.upd hU (by omega) (fun g hg e => by have := h.n3 g hg; omega), (hU.block BR (lt_of_heap h.row) (by omega)).trans h.row, (hU.block L2 (lt_of_heap h.l2) (by omega)).trans h.l2,
  fun x hx => ⟨(hU.block x (lt_of_heap (h.b1 x hx).1) (h1 x hx)).trans (h.b1 x hx).1, (h.b1 x hx).2⟩, fun x hx => ⟨(hU.block x (lt_of_heap (h.b2 x hx).1) (h2 x hx)).trans (h.b2 x hx).1, (h.b2 x hx).2⟩, h.ne, h.upd.next hU (fun i hi e => by omega), n1, n2, h.n3, n4⟩
variable {d1 d2 : Nat}
theorem MMs.c1 (h : MMs w br BR L2 lb F l (some d1) o2 v1 v2 wk) : wk.cell? ⟨d1, 0, none⟩ = some (.int .i64 v1) := by rw [cell_of_row _ _ _ _ _ _ (h.b1 d1 rfl).1]; rfl
theorem MMs.c2 (h : MMs w br BR L2 lb F l o1 (some d2) v1 v2 wk) : wk.cell? ⟨d2, 0, none⟩ = some (.bool v2) := by rw [cell_of_row _ _ _ _ _ _ (h.b2 d2 rfl).1]; rfl
theorem MMs.f1 (h : MMs w br BR L2 lb F l (some d1) o2 v1 v2 wk) : wk.frozen? ⟨d1, 0, none⟩ = false := free_row (h.b1 d1 rfl).1
theorem MMs.f2 (h : MMs w br BR L2 lb F l o1 (some d2) v1 v2 wk) : wk.frozen? ⟨d2, 0, none⟩ = false := free_row (h.b2 d2 rfl).1
theorem MMs.no1 (h : MMs w br BR L2 lb F l o1 o2 v1 v2 wk) (v : Int) : MMs w br BR L2 lb F l none o2 v v2 wk :=
 ⟨h.rd, h.row, h.l2, (fun b hb => by cases hb), h.b2, (fun x y hx hy => by cases hx), h.upd, h.n1, h.n2, h.n3, h.n4⟩
theorem MMs.no2 (h : MMs w br BR L2 lb F l o1 o2 v1 v2 wk) (v : Bool) : MMs w br BR L2 lb F l o1 none v1 v wk :=
 ⟨h.rd, h.row, h.l2, h.b1, (fun b hb => by cases hb), (fun x y hx hy => by cases hy), h.upd, h.n1, h.n2, h.n3, h.n4⟩
theorem MMs.st1 (h : MMs w br BR L2 lb F l (some d1) o2 v1 v2 wk) (v : Int) : MMs w br BR L2 lb F l (some d1) o2 v v2 (wk.setCell ⟨d1, 0, none⟩ (.int .i64 v)) := by
 have hs := (h.no1 v).set d1 (.int .i64 v) (h.b1 d1 rfl).2 (fun x hx => by cases hx) (fun x hx e => h.ne d1 x rfl hx e.symm)
 have hr := setCell_heap 0 (.int .i64 v) (h.b1 d1 rfl).1
 exact ⟨hs.rd, hs.row, hs.l2, fun b hb => by cases hb; exact ⟨by simpa using hr, (h.b1 d1 rfl).2⟩, hs.b2, h.ne, hs.upd, h.n1, h.n2, h.n3, h.n4⟩
theorem MMs.st2 (h : MMs w br BR L2 lb F l o1 (some d2) v1 v2 wk) (v : Bool) : MMs w br BR L2 lb F l o1 (some d2) v1 v (wk.setCell ⟨d2, 0, none⟩ (.bool v)) := by
 have hs := (h.no2 v).set d2 (.bool v) (h.b2 d2 rfl).2 (fun x hx => h.ne x d2 hx rfl) (fun x hx => by cases hx)
 have hr := setCell_heap 0 (.bool v) (h.b2 d2 rfl).1
 exact ⟨hs.rd, hs.row, hs.l2, hs.b1, fun b hb => by cases hb; exact ⟨by simpa using hr, (h.b2 d2 rfl).2⟩, h.ne, hs.upd, h.n1, h.n2, h.n3, h.n4⟩
end
def mvV (l : List UInt8) : Int := intV (s1L l)
def mvR (l : List UInt8) : Bool := (boolS (takeS 4 (s1L l)).2).1
def okMove (l : List UInt8) : Bool := moveL (intV (s1L l)) (boolS (takeS 4 (s1L l)).2).1 == l
def DoMove (w : World) (lb : Nat) (v : Int) (redo : Bool) (e : Ending) (w' : World) : Prop :=
 ∃ L2 c1 c2, e = .returned (.tuple #[.func (.func 100) #[] #[.pointer (some ⟨L2, 0, none⟩), .pointer (some ⟨c1, 0, none⟩), .pointer (some ⟨c2, 0, none⟩)], .int .i64 0]) ∧ w'.heap[L2]? = some (.cells #[.pointer (some ⟨lb, 0, none⟩)] 42) ∧
  w'.heap[c1]? = some (.cells #[.int .i64 v] 3) ∧ w'.heap[c2]? = some (.cells #[.bool redo] 4) ∧ Upd (fun _ => False) w w'
def ReadMv (w : World) (lb : Nat) (l : List UInt8) (e : Ending) (w' : World) : Prop := if okMove l = true then DoMove w lb (mvV l) (mvR l) e w' else ReadNo w e w'
def okDrop (l : List UInt8) : Bool := [4] == l
def DoDrop (w : World) (lb : Nat) (e : Ending) (w' : World) : Prop :=
 ∃ L2, e = .returned (.tuple #[.func (.func 104) #[] #[.pointer (some ⟨L2, 0, none⟩)], .int .i64 0]) ∧ w'.heap[L2]? = some (.cells #[.pointer (some ⟨lb, 0, none⟩)] 42) ∧ Upd (fun _ => False) w w'
def ReadDp (w : World) (lb : Nat) (l : List UInt8) (e : Ending) (w' : World) : Prop := if okDrop l = true then DoDrop w lb e w' else ReadNo w e w'
theorem mPackDrop_anyP (w : World) : Calls Tryz.prog 18 #[] w (Made w [4]) := by
 have hown := lit_own w 4
 have HO := Lib.hid hown
 clear hown
 go_enter Tryz.func18, Tryz.ntmps18
 go_wp2
 go_ret
 exact ⟨some ⟨w.heap.size, 0, none⟩, 1, rfl, Vw.of_own HO.out, fun g hg => by cases hg; exact ⟨Nat.le_refl _, by simp⟩, Upd.alloc _ _ _⟩
set_option maxHeartbeats 16000000 in
theorem read_moveX (lb : Nat) (a : Option Addr) (c : Nat) (l : List UInt8) (w : World) (hv : Vw w a l.length c 1 (bvs l)) (hl : l.length ≤ 70000000) (hk : kindL l = 2) :
  Calls Tryz.prog 57 #[.pointer (some ⟨lb, 0, none⟩), .slice a l.length c] w (ReadMv w lb l) := by
 have HOK : Hid (okMove l = (moveL (intV (s1L l)) (boolS (takeS 4 (s1L l)).2).1 == l)) := Lib.hid rfl
 have HG1 : Hid (okMove l = true → ∀ e w', DoMove w lb (intV (s1L l)) (boolS (takeS 4 (s1L l)).2).1 e w' → ReadMv w lb l e w') := Lib.hid (fun h e w' hd => by unfold ReadMv; rw [if_pos h]; exact hd)
 have HG0 : Hid (okMove l = false → ∀ e w', ReadNo w e w' → ReadMv w lb l e w') := Lib.hid (fun h e w' hd => by unfold ReadMv; rw [h, if_neg (by decide)]; exact hd)
 generalize ReadMv w lb l = GG at *
 generalize okMove l = OO at *
 have hU0 := Upd.alloc (fun _ => False) w (.cells #[.pointer (some ⟨lb, 0, none⟩)] 42)
 have hb0 := heap_alloc_new w (.cells #[.pointer (some ⟨lb, 0, none⟩)] 42)
 have HI0 := Lib.hid hv
 have HI := Lib.hid (And.intro (hv.upd hU0 (fun _ _ h => h)) (And.intro hb0 hU0))
 have hkk : takeS (heldN 1) ⟨l, 0⟩ = ((takeS 1 ⟨l, 0⟩).1, s1L l) := rfl
 have hkl : leN (takeS 1 ⟨l, 0⟩).1 = 2 := hk
 have hs1 : (s1L l).l.length ≤ l.length := takeS_len 1 ⟨l, 0⟩
 have HK := Lib.hid (And.intro hkk (And.intro hkl hs1))
 clear hv hU0 hb0 hkk hkl hs1 hk
 go_enter Tryz.func57, Tryz.ntmps57
 go_upto_region 1 with (fail)
 generalize w.alloc (.cells #[.pointer (some ⟨lb, 0, none⟩)] 42) = y0 at *
 obtain ⟨L2, hL2⟩ : ∃ B, w.heap.size = B := ⟨_, rfl⟩
 rw [hL2] at HI ⊢
 have HB := Lib.hid hL2
 clear hL2
 go_wp2_with fail
 refine (read_any3 a c l y0 HI.out.1 (by omega)).mono ?_
 rintro e w1 ⟨br, F, rfl, hR, hU, hbr, hF⟩
 obtain ⟨BR, hBR⟩ : ∃ B, w1.heap.size = B := ⟨_, rfl⟩
 have hbrl : br < BR := by
  obtain ⟨a9, c9, hh, _⟩ := hR.ex
  rw [← hBR]
  exact lt_of_heap hh
 have hz0 := hU.size
 have hUn := Upd.alloc (fun _ => False) w1 (.cells #[.pointer (some ⟨br, 0, none⟩)] 139)
 have hrow := heap_alloc_new w1 (.cells #[.pointer (some ⟨br, 0, none⟩)] 139)
 have hL2 := ((hU.trans hUn).block L2 (lt_of_heap HI.out.2.1) (fun h => h)).trans HI.out.2.1
 have hltL := lt_of_heap HI.out.2.1
 have hUw := HI.out.2.2.trans (hU.trans hUn)
 rw [hBR] at hrow
 have HJ := Lib.hid (And.intro (hR.upd hUn (fun h => h) (fun _ _ h => h)) (And.intro hrow (And.intro hL2 hUw)))
 have hnum := rnum_any br F ⟨l, 0⟩ 1 _ HJ.out.1 (by show l.length ≤ _; omega)
 rw [HK.out.1] at hnum
 unfold ReadN at hnum
 dsimp only at hnum
 rw [HK.out.2.1] at hnum
 have hF2 : ∀ g, F = some g → g < BR := fun g hg => by have := (hF g hg).2; omega
 have hbrL : L2 < br := by omega
 have HN := Lib.hid (And.intro hbrl (And.intro hF2 (And.intro hbrL (fun g (hg : F = some g) => show L2 < g from by have := (hF g hg).1; omega))))
 have HS1 : Hid ((s1L l).l.length ≤ 100000000) := Lib.hid (by have := HK.out.2.2; omega)
 clear hR hU hbr hF hbrl hz0 hUn hrow hL2 hltL hUw hF2 hbrL HI HK
 generalize s1L l = s1 at *
 go_upto_region 5 with (fail)
 generalize w1.alloc (.cells #[.pointer (some ⟨br, 0, none⟩)] 139) = w2 at *
 clear hBR
 have q : w2.cell? ⟨BR, 0, none⟩ = some (.pointer (some ⟨br, 0, none⟩)) := by rw [cell_of_row _ _ _ _ _ _ HJ.out.2.1]; rfl
 go_wp2_with fail
 refine hnum.mono ?_
 rintro e w3 ⟨rfl, hR, hU⟩
 have hn1 := HN.out.1
 have hn2 := HN.out.2.2.1
 have hrow := (hU.block BR (lt_of_heap HJ.out.2.1) (by omega)).trans HJ.out.2.1
 have hL2 := (hU.block L2 (lt_of_heap HJ.out.2.2.1) (by omega)).trans HJ.out.2.2.1
 have hBz := lt_of_heap hrow
 have HB' := HB.out
 have hUw : Upd (fun _ => False) w w3 := HJ.out.2.2.2.next hU (fun i hi e => by omega)
 have HR := Lib.hid (And.intro hR (And.intro hrow (And.intro hL2 (And.intro hUw hBz))))
 clear q hnum
 have q : w3.cell? ⟨BR, 0, none⟩ = some (.pointer (some ⟨br, 0, none⟩)) := by rw [cell_of_row _ _ _ _ _ _ hrow]; rfl
 clear hR hU hrow hL2 hUw hBz HB' hn1 hn2 HJ
 have HM1 : Hid (MMs w br BR L2 lb F s1 none none 0 false w3) := Lib.hid
  ⟨HR.out.1, HR.out.2.1, HR.out.2.2.1, (fun b hb => by cases hb), (fun b hb => by cases hb), (fun x y hx hy => by cases hx), HR.out.2.2.2.1, HN.out.1, HN.out.2.2.1, (fun g hg => ⟨HN.out.2.2.2 g hg, HN.out.2.1 g hg⟩), Nat.le_of_eq HB.out⟩
 have hs2 : (takeS 4 s1).2.l.length ≤ s1.l.length := takeS_len 4 s1
 have HN1 : Hid (∀ wk, Rd wk br F s1.l s1.e → Calls Tryz.prog 98 #[.pointer (some ⟨br, 0, none⟩)] wk fun e w' => e = .returned (.int .i64 (intV s1)) ∧ Rd w' br F (takeS 4 s1).2.l (takeS 4 s1).2.e ∧ Upd (fun k => k = br) wk w') := Lib.hid (fun wk h => rint_any br F s1 wk h HS1.out)
 have HN2 : Hid (∀ wk, Rd wk br F (takeS 4 s1).2.l (takeS 4 s1).2.e → Calls Tryz.prog 99 #[.pointer (some ⟨br, 0, none⟩)] wk fun e w' => e = .returned (.bool (boolS (takeS 4 s1).2).1) ∧ Rd w' br F (boolS (takeS 4 s1).2).2.l (boolS (takeS 4 s1).2).2.e ∧ Upd (fun k => k = br) wk w') := Lib.hid (fun wk h => rbool_any br F _ wk h (Nat.le_trans hs2 HS1.out))
 have HPM := Lib.hid (fun w' => mPackMove_any (intV s1) (boolS (takeS 4 s1).2).1 w')
 clear hs2 HR HN HB HS1
 generalize moveL (intV s1) (boolS (takeS 4 s1).2).1 = ML at *
 generalize (boolS (takeS 4 s1).2).2 = s3 at *
 generalize (boolS (takeS 4 s1).2).1 = redo at *
 generalize (takeS 4 s1).2 = s2 at *
 generalize intV s1 = v at *
 go_upto_region 11 with (fail)
 go_cut [11, 12] (fun s11 s12 wx => ∃ c1 c2, s11 = .pointer (some ⟨c1, 0, none⟩) ∧ s12 = .pointer (some ⟨c2, 0, none⟩) ∧ Hid (MMs w br BR L2 lb F s3 (some c1) (some c2) v redo wx))
 case first =>
  have hqd := (HM1.out.same (Upd.drew _ _)).q
  clear q
  refine wp_region_tri (.three [0, 1, 3, 4] 2 (.three [] 5 (.two [] 6 (.one [] 7 (.one [] 8 (.one [] 9 (.last [])))) 7 (.one [] 6 (.one [] 8 (.one [] 9 (.last []))))) 6 (.two [] 5 (.one [] 7 (.one [] 8 (.one [] 9 (.last [])))) 7 (.one [] 5 (.one [] 8 (.one [] 9 (.last []))))) 7 (.two [] 5 (.one [] 6 (.one [] 8 (.one [] 9 (.last [])))) 6 (.one [] 5 (.one [] 8 (.one [] 9 (.last [])))))) 6 (.two [] 2 (.two [] 5 (.one [] 7 (.one [] 8 (.one [] 9 (.last [])))) 7 (.one [] 5 (.one [] 8 (.one [] 9 (.last []))))) 7 (.one [] 2 (.one [] 5 (.one [] 8 (.one [] 9 (.last [])))))) 7 (.two [] 2 (.two [] 5 (.one [] 6 (.one [] 8 (.one [] 9 (.last [])))) 6 (.one [] 5 (.one [] 8 (.one [] 9 (.last []))))) 6 (.one [] 2 (.one [] 5 (.one [] 8 (.one [] 9 (.last []))))))) (fun w' => w'.cell? ⟨BR, 0, none⟩ = some (.pointer (some ⟨br, 0, none⟩))) (by kernel_rfl) (by kernel_rfl) hqd ?_
  iterate 4
   refine tri_take3 (v := ?_) rfl rfl (fun w' hS => ?_) ?_
   rotate_left
   ·skip
    go_simp; try with_reducible rfl
   simp only [putL]
  have HM := Lib.hid (HM1.out.same (Upd.drew (fun _ => False) w3))
  clear hqd HM1
  generalize w3.drew = x0 at *
  refine tri_all ?_ ?_ ?_
  ·refine tri_act rfl (fun K2 hK2 => ?_)
   go_wp2_with fail
   refine (HN1.out _ HM.out.rd).mono ?_
   rintro e x1 ⟨rfl, hR, hU⟩
   have HMa := Lib.hid (HM.out.read hR hU)
   clear hR hU HM
   have HM := HMa
   clear HMa
   have hq := HM.out.q
   go_wp2_with fail
   refine hK2.out _ _ hq ?_
   clear hq
   refine tri_all ?_ ?_ ?_
   ·refine tri_act rfl (fun K5 hK5 => ?_)
    go_wp2_with fail
    refine (HN2.out _ HM.out.rd).mono ?_
    rintro e x2 ⟨rfl, hR, hU⟩
    have HMa := Lib.hid (HM.out.read hR hU)
    clear hR hU HM
    have HM := HMa
    clear HMa
    have hq := HM.out.q
    go_wp2_with fail
    refine hK5.out _ _ hq ?_
    clear hq
    refine tri_both ?_ ?_
    ·refine tri_act rfl (fun K6 hK6 => ?_)
     have HMa := Lib.hid (HM.out.al1)
     clear HM
     have HM := HMa
     clear HMa
     have hq := HM.out.q
     go_wp2_with fail
     refine hK6.out _ _ hq ?_
     clear hq
     generalize x2.alloc (.cells #[.int .i64 0] 3) = x3 at *
     generalize x2.heap.size = c1 at *
     refine tri_act rfl (fun K7 hK7 => ?_)
     have HMa := Lib.hid (HM.out.al2)
     clear HM
     have HM := HMa
     clear HMa
     have hq := HM.out.q
     go_wp2_with fail
     refine hK7.out _ _ hq ?_
     clear hq
     generalize x3.alloc (.cells #[.bool false] 4) = x4 at *
     generalize x3.heap.size = c2 at *
     refine tri_act rfl (fun K8 hK8 => ?_)
     have hc := HM.out.c1
     have hf := HM.out.f1
     have HMa := Lib.hid (HM.out.st1 v)
     have hq := HMa.out.q
     go_wp2_with fail
     refine hK8.out _ _ hq ?_
     clear hq hc hf HM
     generalize x4.setCell ⟨c1, 0, none⟩ (.int .i64 v) = x8 at *
     refine tri_act rfl (fun K9 hK9 => ?_)
     have hc := HMa.out.c2
     have hf := HMa.out.f2
     have HMb := Lib.hid (HMa.out.st2 redo)
     have hq := HMb.out.q
     go_wp2_with fail
     refine hK9.out _ _ hq ?_
     refine tri_end ?_
     clear hq hc hf HMa
     generalize x8.setCell ⟨c2, 0, none⟩ (.bool redo) = x9 at *
     go_wp2_with fail
     go_meet
     case rel => exact ⟨c1, c2, rfl, rfl, HMb⟩
    ·refine tri_act rfl (fun K7 hK7 => ?_)
     have HMa := Lib.hid (HM.out.al2)
     clear HM
     have HM := HMa
     clear HMa
     have hq := HM.out.q
     go_wp2_with fail
     refine hK7.out _ _ hq ?_
     clear hq
     generalize x2.alloc (.cells #[.bool false] 4) = x3 at *
     generalize x2.heap.size = c2 at *
     refine tri_act rfl (fun K6 hK6 => ?_)
     have HMa := Lib.hid (HM.out.al1)
     clear HM
     have HM := HMa
     clear HMa
     have hq := HM.out.q
     go_wp2_with fail
     refine hK6.out _ _ hq ?_
     clear hq
     generalize x3.alloc (.cells #[.int .i64 0] 3) = x4 at *
     generalize x3.heap.size = c1 at *
     refine tri_act rfl (fun K8 hK8 => ?_)
     have hc := HM.out.c1
     have hf := HM.out.f1
     have HMa := Lib.hid (HM.out.st1 v)
     have hq := HMa.out.q
     go_wp2_with fail
     refine hK8.out _ _ hq ?_
     clear hq hc hf HM
     generalize x4.setCell ⟨c1, 0, none⟩ (.int .i64 v) = x8 at *
     refine tri_act rfl (fun K9 hK9 => ?_)
     have hc := HMa.out.c2
     have hf := HMa.out.f2
     have HMb := Lib.hid (HMa.out.st2 redo)
     have hq := HMb.out.q
     go_wp2_with fail
     refine hK9.out _ _ hq ?_
     refine tri_end ?_
     clear hq hc hf HMa
     generalize x8.setCell ⟨c2, 0, none⟩ (.bool redo) = x9 at *
     go_wp2_with fail
     go_meet
     case rel => exact ⟨c1, c2, rfl, rfl, HMb⟩
   ·refine tri_act rfl (fun K6 hK6 => ?_)
    have HMa := Lib.hid (HM.out.al1)
    clear HM
    have HM := HMa
    clear HMa
    have hq := HM.out.q
    go_wp2_with fail
    refine hK6.out _ _ hq ?_
    clear hq
    generalize x1.alloc (.cells #[.int .i64 0] 3) = x2 at *
    generalize x1.heap.size = c1 at *
    refine tri_both ?_ ?_
    ·refine tri_act rfl (fun K5 hK5 => ?_)
     go_wp2_with fail
     refine (HN2.out _ HM.out.rd).mono ?_
     rintro e x3 ⟨rfl, hR, hU⟩
     have HMa := Lib.hid (HM.out.read hR hU)
     clear hR hU HM
     have HM := HMa
     clear HMa
     have hq := HM.out.q
     go_wp2_with fail
     refine hK5.out _ _ hq ?_
     clear hq
     refine tri_act rfl (fun K7 hK7 => ?_)
     have HMa := Lib.hid (HM.out.al2)
     clear HM
     have HM := HMa
     clear HMa
     have hq := HM.out.q
     go_wp2_with fail
     refine hK7.out _ _ hq ?_
     clear hq
     generalize x3.alloc (.cells #[.bool false] 4) = x4 at *
     generalize x3.heap.size = c2 at *
     refine tri_act rfl (fun K8 hK8 => ?_)
     have hc := HM.out.c1
     have hf := HM.out.f1
     have HMa := Lib.hid (HM.out.st1 v)
     have hq := HMa.out.q
     go_wp2_with fail
     refine hK8.out _ _ hq ?_
     clear hq hc hf HM
     generalize x4.setCell ⟨c1, 0, none⟩ (.int .i64 v) = x8 at *
     refine tri_act rfl (fun K9 hK9 => ?_)
     have hc := HMa.out.c2
     have hf := HMa.out.f2
     have HMb := Lib.hid (HMa.out.st2 redo)
     have hq := HMb.out.q
     go_wp2_with fail
     refine hK9.out _ _ hq ?_
     refine tri_end ?_
     clear hq hc hf HMa
     generalize x8.setCell ⟨c2, 0, none⟩ (.bool redo) = x9 at *
     go_wp2_with fail
     go_meet
     case rel => exact ⟨c1, c2, rfl, rfl, HMb⟩
    ·refine tri_act rfl (fun K7 hK7 => ?_)
     have HMa := Lib.hid (HM.out.al2)
     clear HM
     have HM := HMa
     clear HMa
     have hq := HM.out.q
     go_wp2_with fail
     refine hK7.out _ _ hq ?_
     clear hq
     generalize x2.alloc (.cells #[.bool false] 4) = x3 at *
     generalize x2.heap.size = c2 at *
     refine tri_act rfl (fun K5 hK5 => ?_)
     go_wp2_with fail
     refine (HN2.out _ HM.out.rd).mono ?_
     rintro e x4 ⟨rfl, hR, hU⟩
     have HMa := Lib.hid (HM.out.read hR hU)
     clear hR hU HM
     have HM := HMa
     clear HMa
     have hq := HM.out.q
     go_wp2_with fail
     refine hK5.out _ _ hq ?_
     clear hq
     refine tri_act rfl (fun K8 hK8 => ?_)
     have hc := HM.out.c1
     have hf := HM.out.f1
     have HMa := Lib.hid (HM.out.st1 v)
     have hq := HMa.out.q
     go_wp2_with fail
     refine hK8.out _ _ hq ?_
     clear hq hc hf HM
     generalize x4.setCell ⟨c1, 0, none⟩ (.int .i64 v) = x8 at *
     refine tri_act rfl (fun K9 hK9 => ?_)
     have hc := HMa.out.c2
     have hf := HMa.out.f2
     have HMb := Lib.hid (HMa.out.st2 redo)
     have hq := HMb.out.q
     go_wp2_with fail
     refine hK9.out _ _ hq ?_
     refine tri_end ?_
     clear hq hc hf HMa
     generalize x8.setCell ⟨c2, 0, none⟩ (.bool redo) = x9 at *
     go_wp2_with fail
     go_meet
     case rel => exact ⟨c1, c2, rfl, rfl, HMb⟩
   ·refine tri_act rfl (fun K7 hK7 => ?_)
    have HMa := Lib.hid (HM.out.al2)
    clear HM
    have HM := HMa
    clear HMa
    have hq := HM.out.q
    go_wp2_with fail
    refine hK7.out _ _ hq ?_
    clear hq
    generalize x1.alloc (.cells #[.bool false] 4) = x2 at *
    generalize x1.heap.size = c2 at *
    refine tri_both ?_ ?_
    ·refine tri_act rfl (fun K5 hK5 => ?_)
     go_wp2_with fail
     refine (HN2.out _ HM.out.rd).mono ?_
     rintro e x3 ⟨rfl, hR, hU⟩
     have HMa := Lib.hid (HM.out.read hR hU)
     clear hR hU HM
     have HM := HMa
     clear HMa
     have hq := HM.out.q
     go_wp2_with fail
     refine hK5.out _ _ hq ?_
     clear hq
     refine tri_act rfl (fun K6 hK6 => ?_)
     have HMa := Lib.hid (HM.out.al1)
     clear HM
     have HM := HMa
     clear HMa
     have hq := HM.out.q
     go_wp2_with fail
     refine hK6.out _ _ hq ?_
     clear hq
     generalize x3.alloc (.cells #[.int .i64 0] 3) = x4 at *
     generalize x3.heap.size = c1 at *
     refine tri_act rfl (fun K8 hK8 => ?_)
     have hc := HM.out.c1
     have hf := HM.out.f1
     have HMa := Lib.hid (HM.out.st1 v)
     have hq := HMa.out.q
     go_wp2_with fail
     refine hK8.out _ _ hq ?_
     clear hq hc hf HM
     generalize x4.setCell ⟨c1, 0, none⟩ (.int .i64 v) = x8 at *
     refine tri_act rfl (fun K9 hK9 => ?_)
     have hc := HMa.out.c2
     have hf := HMa.out.f2
     have HMb := Lib.hid (HMa.out.st2 redo)
     have hq := HMb.out.q
     go_wp2_with fail
     refine hK9.out _ _ hq ?_
     refine tri_end ?_
     clear hq hc hf HMa
     generalize x8.setCell ⟨c2, 0, none⟩ (.bool redo) = x9 at *
     go_wp2_with fail
     go_meet
     case rel => exact ⟨c1, c2, rfl, rfl, HMb⟩
    ·refine tri_act rfl (fun K6 hK6 => ?_)
     have HMa := Lib.hid (HM.out.al1)
     clear HM
     have HM := HMa
     clear HMa
     have hq := HM.out.q
     go_wp2_with fail
     refine hK6.out _ _ hq ?_
     clear hq
     generalize x2.alloc (.cells #[.int .i64 0] 3) = x3 at *
     generalize x2.heap.size = c1 at *
     refine tri_act rfl (fun K5 hK5 => ?_)
     go_wp2_with fail
     refine (HN2.out _ HM.out.rd).mono ?_
     rintro e x4 ⟨rfl, hR, hU⟩
     have HMa := Lib.hid (HM.out.read hR hU)
     clear hR hU HM
     have HM := HMa
     clear HMa
     have hq := HM.out.q
     go_wp2_with fail
     refine hK5.out _ _ hq ?_
     clear hq
     refine tri_act rfl (fun K8 hK8 => ?_)
     have hc := HM.out.c1
     have hf := HM.out.f1
     have HMa := Lib.hid (HM.out.st1 v)
     have hq := HMa.out.q
     go_wp2_with fail
     refine hK8.out _ _ hq ?_
     clear hq hc hf HM
     generalize x4.setCell ⟨c1, 0, none⟩ (.int .i64 v) = x8 at *
     refine tri_act rfl (fun K9 hK9 => ?_)
     have hc := HMa.out.c2
     have hf := HMa.out.f2
     have HMb := Lib.hid (HMa.out.st2 redo)
     have hq := HMb.out.q
     go_wp2_with fail
     refine hK9.out _ _ hq ?_
     refine tri_end ?_
     clear hq hc hf HMa
     generalize x8.setCell ⟨c2, 0, none⟩ (.bool redo) = x9 at *
     go_wp2_with fail
     go_meet
     case rel => exact ⟨c1, c2, rfl, rfl, HMb⟩
  ·refine tri_act rfl (fun K6 hK6 => ?_)
   have HMa := Lib.hid (HM.out.al1)
   clear HM
   have HM := HMa
   clear HMa
   have hq := HM.out.q
   go_wp2_with fail
   refine hK6.out _ _ hq ?_
   clear hq
   generalize x0.alloc (.cells #[.int .i64 0] 3) = x1 at *
   generalize x0.heap.size = c1 at *
   refine tri_both ?_ ?_
   ·refine tri_act rfl (fun K2 hK2 => ?_)
    go_wp2_with fail
    refine (HN1.out _ HM.out.rd).mono ?_
    rintro e x2 ⟨rfl, hR, hU⟩
    have HMa := Lib.hid (HM.out.read hR hU)
    clear hR hU HM
    have HM := HMa
    clear HMa
    have hq := HM.out.q
    go_wp2_with fail
    refine hK2.out _ _ hq ?_
    clear hq
    refine tri_both ?_ ?_
    ·refine tri_act rfl (fun K5 hK5 => ?_)
     go_wp2_with fail
     refine (HN2.out _ HM.out.rd).mono ?_
     rintro e x3 ⟨rfl, hR, hU⟩
     have HMa := Lib.hid (HM.out.read hR hU)
     clear hR hU HM
     have HM := HMa
     clear HMa
     have hq := HM.out.q
     go_wp2_with fail
     refine hK5.out _ _ hq ?_
     clear hq
     refine tri_act rfl (fun K7 hK7 => ?_)
     have HMa := Lib.hid (HM.out.al2)
     clear HM
     have HM := HMa
     clear HMa
     have hq := HM.out.q
     go_wp2_with fail
     refine hK7.out _ _ hq ?_
     clear hq
     generalize x3.alloc (.cells #[.bool false] 4) = x4 at *
     generalize x3.heap.size = c2 at *
     refine tri_act rfl (fun K8 hK8 => ?_)
     have hc := HM.out.c1
     have hf := HM.out.f1
     have HMa := Lib.hid (HM.out.st1 v)
     have hq := HMa.out.q
     go_wp2_with fail
     refine hK8.out _ _ hq ?_
     clear hq hc hf HM
     generalize x4.setCell ⟨c1, 0, none⟩ (.int .i64 v) = x8 at *
     refine tri_act rfl (fun K9 hK9 => ?_)
     have hc := HMa.out.c2
     have hf := HMa.out.f2
     have HMb := Lib.hid (HMa.out.st2 redo)
     have hq := HMb.out.q
     go_wp2_with fail
     refine hK9.out _ _ hq ?_
     refine tri_end ?_
     clear hq hc hf HMa
     generalize x8.setCell ⟨c2, 0, none⟩ (.bool redo) = x9 at *
     go_wp2_with fail
     go_meet
     case rel => exact ⟨c1, c2, rfl, rfl, HMb⟩
    ·refine tri_act rfl (fun K7 hK7 => ?_)
     have HMa := Lib.hid (HM.out.al2)
     clear HM
     have HM := HMa
     clear HMa
     have hq := HM.out.q
     go_wp2_with fail
     refine hK7.out _ _ hq ?_
     clear hq
     generalize x2.alloc (.cells #[.bool false] 4) = x3 at *
     generalize x2.heap.size = c2 at *
     refine tri_act rfl (fun K5 hK5 => ?_)
     go_wp2_with fail
     refine (HN2.out _ HM.out.rd).mono ?_
     rintro e x4 ⟨rfl, hR, hU⟩
     have HMa := Lib.hid (HM.out.read hR hU)
     clear hR hU HM
     have HM := HMa
     clear HMa
     have hq := HM.out.q
     go_wp2_with fail
     refine hK5.out _ _ hq ?_
     clear hq
     refine tri_act rfl (fun K8 hK8 => ?_)
     have hc := HM.out.c1
     have hf := HM.out.f1
     have HMa := Lib.hid (HM.out.st1 v)
     have hq := HMa.out.q
     go_wp2_with fail
     refine hK8.out _ _ hq ?_
     clear hq hc hf HM
     generalize x4.setCell ⟨c1, 0, none⟩ (.int .i64 v) = x8 at *
     refine tri_act rfl (fun K9 hK9 => ?_)
     have hc := HMa.out.c2
     have hf := HMa.out.f2
     have HMb := Lib.hid (HMa.out.st2 redo)
     have hq := HMb.out.q
     go_wp2_with fail
     refine hK9.out _ _ hq ?_
     refine tri_end ?_
     clear hq hc hf HMa
     generalize x8.setCell ⟨c2, 0, none⟩ (.bool redo) = x9 at *
     go_wp2_with fail
     go_meet
     case rel => exact ⟨c1, c2, rfl, rfl, HMb⟩
   ·refine tri_act rfl (fun K7 hK7 => ?_)
    have HMa := Lib.hid (HM.out.al2)
    clear HM
    have HM := HMa
    clear HMa
    have hq := HM.out.q
    go_wp2_with fail
    refine hK7.out _ _ hq ?_
    clear hq
    generalize x1.alloc (.cells #[.bool false] 4) = x2 at *
    generalize x1.heap.size = c2 at *
    refine tri_act rfl (fun K2 hK2 => ?_)
    go_wp2_with fail
    refine (HN1.out _ HM.out.rd).mono ?_
    rintro e x3 ⟨rfl, hR, hU⟩
    have HMa := Lib.hid (HM.out.read hR hU)
    clear hR hU HM
    have HM := HMa
    clear HMa
    have hq := HM.out.q
    go_wp2_with fail
    refine hK2.out _ _ hq ?_
    clear hq
    refine tri_act rfl (fun K5 hK5 => ?_)
    go_wp2_with fail
    refine (HN2.out _ HM.out.rd).mono ?_
    rintro e x4 ⟨rfl, hR, hU⟩
    have HMa := Lib.hid (HM.out.read hR hU)
    clear hR hU HM
    have HM := HMa
    clear HMa
    have hq := HM.out.q
    go_wp2_with fail
    refine hK5.out _ _ hq ?_
    clear hq
    refine tri_act rfl (fun K8 hK8 => ?_)
    have hc := HM.out.c1
    have hf := HM.out.f1
    have HMa := Lib.hid (HM.out.st1 v)
    have hq := HMa.out.q
    go_wp2_with fail
    refine hK8.out _ _ hq ?_
    clear hq hc hf HM
    generalize x4.setCell ⟨c1, 0, none⟩ (.int .i64 v) = x8 at *
    refine tri_act rfl (fun K9 hK9 => ?_)
    have hc := HMa.out.c2
    have hf := HMa.out.f2
    have HMb := Lib.hid (HMa.out.st2 redo)
    have hq := HMb.out.q
    go_wp2_with fail
    refine hK9.out _ _ hq ?_
    refine tri_end ?_
    clear hq hc hf HMa
    generalize x8.setCell ⟨c2, 0, none⟩ (.bool redo) = x9 at *
    go_wp2_with fail
    go_meet
    case rel => exact ⟨c1, c2, rfl, rfl, HMb⟩
  ·refine tri_act rfl (fun K7 hK7 => ?_)
   have HMa := Lib.hid (HM.out.al2)
   clear HM
   have HM := HMa
   clear HMa
   have hq := HM.out.q
   go_wp2_with fail
   refine hK7.out _ _ hq ?_
   clear hq
   generalize x0.alloc (.cells #[.bool false] 4) = x1 at *
   generalize x0.heap.size = c2 at *
   refine tri_both ?_ ?_
   ·refine tri_act rfl (fun K2 hK2 => ?_)
    go_wp2_with fail
    refine (HN1.out _ HM.out.rd).mono ?_
    rintro e x2 ⟨rfl, hR, hU⟩
    have HMa := Lib.hid (HM.out.read hR hU)
    clear hR hU HM
    have HM := HMa
    clear HMa
    have hq := HM.out.q
    go_wp2_with fail
    refine hK2.out _ _ hq ?_
    clear hq
    refine tri_both ?_ ?_
    ·refine tri_act rfl (fun K5 hK5 => ?_)
     go_wp2_with fail
     refine (HN2.out _ HM.out.rd).mono ?_
     rintro e x3 ⟨rfl, hR, hU⟩
     have HMa := Lib.hid (HM.out.read hR hU)
     clear hR hU HM
     have HM := HMa
     clear HMa
     have hq := HM.out.q
     go_wp2_with fail
     refine hK5.out _ _ hq ?_
     clear hq
     refine tri_act rfl (fun K6 hK6 => ?_)
     have HMa := Lib.hid (HM.out.al1)
     clear HM
     have HM := HMa
     clear HMa
     have hq := HM.out.q
     go_wp2_with fail
     refine hK6.out _ _ hq ?_
     clear hq
     generalize x3.alloc (.cells #[.int .i64 0] 3) = x4 at *
     generalize x3.heap.size = c1 at *
     refine tri_act rfl (fun K8 hK8 => ?_)
     have hc := HM.out.c1
     have hf := HM.out.f1
     have HMa := Lib.hid (HM.out.st1 v)
     have hq := HMa.out.q
     go_wp2_with fail
     refine hK8.out _ _ hq ?_
     clear hq hc hf HM
     generalize x4.setCell ⟨c1, 0, none⟩ (.int .i64 v) = x8 at *
     refine tri_act rfl (fun K9 hK9 => ?_)
     have hc := HMa.out.c2
     have hf := HMa.out.f2
     have HMb := Lib.hid (HMa.out.st2 redo)
     have hq := HMb.out.q
     go_wp2_with fail
     refine hK9.out _ _ hq ?_
     refine tri_end ?_
     clear hq hc hf HMa
     generalize x8.setCell ⟨c2, 0, none⟩ (.bool redo) = x9 at *
     go_wp2_with fail
     go_meet
     case rel => exact ⟨c1, c2, rfl, rfl, HMb⟩
    ·refine tri_act rfl (fun K6 hK6 => ?_)
     have HMa := Lib.hid (HM.out.al1)
     clear HM
     have HM := HMa
     clear HMa
     have hq := HM.out.q
     go_wp2_with fail
     refine hK6.out _ _ hq ?_
     clear hq
     generalize x2.alloc (.cells #[.int .i64 0] 3) = x3 at *
     generalize x2.heap.size = c1 at *
     refine tri_act rfl (fun K5 hK5 => ?_)
     go_wp2_with fail
     refine (HN2.out _ HM.out.rd).mono ?_
     rintro e x4 ⟨rfl, hR, hU⟩
     have HMa := Lib.hid (HM.out.read hR hU)
     clear hR hU HM
     have HM := HMa
     clear HMa
     have hq := HM.out.q
     go_wp2_with fail
     refine hK5.out _ _ hq ?_
     clear hq
     refine tri_act rfl (fun K8 hK8 => ?_)
     have hc := HM.out.c1
     have hf := HM.out.f1
     have HMa := Lib.hid (HM.out.st1 v)
     have hq := HMa.out.q
     go_wp2_with fail
     refine hK8.out _ _ hq ?_
     clear hq hc hf HM
     generalize x4.setCell ⟨c1, 0, none⟩ (.int .i64 v) = x8 at *
     refine tri_act rfl (fun K9 hK9 => ?_)
     have hc := HMa.out.c2
     have hf := HMa.out.f2
     have HMb := Lib.hid (HMa.out.st2 redo)
     have hq := HMb.out.q
     go_wp2_with fail
     refine hK9.out _ _ hq ?_
     refine tri_end ?_
     clear hq hc hf HMa
     generalize x8.setCell ⟨c2, 0, none⟩ (.bool redo) = x9 at *
     go_wp2_with fail
     go_meet
     case rel => exact ⟨c1, c2, rfl, rfl, HMb⟩
   ·refine tri_act rfl (fun K6 hK6 => ?_)
    have HMa := Lib.hid (HM.out.al1)
    clear HM
    have HM := HMa
    clear HMa
    have hq := HM.out.q
    go_wp2_with fail
    refine hK6.out _ _ hq ?_
    clear hq
    generalize x1.alloc (.cells #[.int .i64 0] 3) = x2 at *
    generalize x1.heap.size = c1 at *
    refine tri_act rfl (fun K2 hK2 => ?_)
    go_wp2_with fail
    refine (HN1.out _ HM.out.rd).mono ?_
    rintro e x3 ⟨rfl, hR, hU⟩
    have HMa := Lib.hid (HM.out.read hR hU)
    clear hR hU HM
    have HM := HMa
    clear HMa
    have hq := HM.out.q
    go_wp2_with fail
    refine hK2.out _ _ hq ?_
    clear hq
    refine tri_act rfl (fun K5 hK5 => ?_)
    go_wp2_with fail
    refine (HN2.out _ HM.out.rd).mono ?_
    rintro e x4 ⟨rfl, hR, hU⟩
    have HMa := Lib.hid (HM.out.read hR hU)
    clear hR hU HM
    have HM := HMa
    clear HMa
    have hq := HM.out.q
    go_wp2_with fail
    refine hK5.out _ _ hq ?_
    clear hq
    refine tri_act rfl (fun K8 hK8 => ?_)
    have hc := HM.out.c1
    have hf := HM.out.f1
    have HMa := Lib.hid (HM.out.st1 v)
    have hq := HMa.out.q
    go_wp2_with fail
    refine hK8.out _ _ hq ?_
    clear hq hc hf HM
    generalize x4.setCell ⟨c1, 0, none⟩ (.int .i64 v) = x8 at *
    refine tri_act rfl (fun K9 hK9 => ?_)
    have hc := HMa.out.c2
    have hf := HMa.out.f2
    have HMb := Lib.hid (HMa.out.st2 redo)
    have hq := HMb.out.q
    go_wp2_with fail
    refine hK9.out _ _ hq ?_
    refine tri_end ?_
    clear hq hc hf HMa
    generalize x8.setCell ⟨c2, 0, none⟩ (.bool redo) = x9 at *
    go_wp2_with fail
    go_meet
    case rel => exact ⟨c1, c2, rfl, rfl, HMb⟩
 case rest =>
  obtain ⟨c1, c2, rfl, rfl, HM⟩ := hcut
  have q1 := HM.out.c1
  have q2 := HM.out.c2
  go_wp2_with fail
  refine (HPM.out _).mono ?_
  rintro e w6 ⟨a3, c3, rfl, hv3, hf3, hU6⟩
  have hva := HI0.out.upd (HM.out.upd.trans hU6) (fun _ _ h => h)
  have hse := slEqB_any a3 a c3 c ML l w6 hv3 hva
  rw [← HOK.out] at hse
  have HY := Lib.hid (HM.out.same hU6)
  clear hv3 hf3 hU6 hva q1 q2 HM HM1
  go_wp2_with fail
  refine hse.mono ?_
  rintro e w7 ⟨rfl, hU7⟩
  have HZ := Lib.hid (HY.out.same hU7)
  clear hse hU7 HY
  cases OO with
  | false =>
   go_wp2_with fail
   try go_ret2
   exact HG0.out (by first | rfl | trivial) _ _ ⟨rfl, HZ.out.upd⟩
  | true =>
   go_wp2_with fail
   try go_ret2
   exact HG1.out (by first | rfl | trivial) _ _ ⟨L2, c1, c2, rfl, HZ.out.l2, (HZ.out.b1 c1 rfl).1, (HZ.out.b2 c2 rfl).1, HZ.out.upd⟩
set_option maxHeartbeats 16000000 in
theorem read_dropX (lb : Nat) (a : Option Addr) (c : Nat) (l : List UInt8) (w : World) (hv : Vw w a l.length c 1 (bvs l)) (hl : l.length ≤ 70000000) (hk : kindL l = 4) :
  Calls Tryz.prog 57 #[.pointer (some ⟨lb, 0, none⟩), .slice a l.length c] w (ReadDp w lb l) := by
 have HOK : Hid (okDrop l = (([4] : List UInt8) == l)) := Lib.hid rfl
 have HG1 : Hid (okDrop l = true → ∀ e w', DoDrop w lb e w' → ReadDp w lb l e w') := Lib.hid (fun h e w' hd => by unfold ReadDp; rw [if_pos h]; exact hd)
 have HG0 : Hid (okDrop l = false → ∀ e w', ReadNo w e w' → ReadDp w lb l e w') := Lib.hid (fun h e w' hd => by unfold ReadDp; rw [h, if_neg (by decide)]; exact hd)
 generalize ReadDp w lb l = GG at *
 generalize okDrop l = OO at *
 have hU0 := Upd.alloc (fun _ => False) w (.cells #[.pointer (some ⟨lb, 0, none⟩)] 42)
 have hb0 := heap_alloc_new w (.cells #[.pointer (some ⟨lb, 0, none⟩)] 42)
 have HI0 := Lib.hid hv
 have HI := Lib.hid (And.intro (hv.upd hU0 (fun _ _ h => h)) (And.intro hb0 hU0))
 have hkk : takeS (heldN 1) ⟨l, 0⟩ = ((takeS 1 ⟨l, 0⟩).1, s1L l) := rfl
 have hkl : leN (takeS 1 ⟨l, 0⟩).1 = 4 := hk
 have hs1 : (s1L l).l.length ≤ l.length := takeS_len 1 ⟨l, 0⟩
 have HK := Lib.hid (And.intro hkk (And.intro hkl hs1))
 clear hv hU0 hb0 hkk hkl hs1 hk
 go_enter Tryz.func57, Tryz.ntmps57
 go_upto_region 1 with (fail)
 generalize w.alloc (.cells #[.pointer (some ⟨lb, 0, none⟩)] 42) = y0 at *
 obtain ⟨L2, hL2⟩ : ∃ B, w.heap.size = B := ⟨_, rfl⟩
 rw [hL2] at HI ⊢
 have HB := Lib.hid hL2
 clear hL2
 go_wp2_with fail
 refine (read_any3 a c l y0 HI.out.1 (by omega)).mono ?_
 rintro e w1 ⟨br, F, rfl, hR, hU, hbr, hF⟩
 obtain ⟨BR, hBR⟩ : ∃ B, w1.heap.size = B := ⟨_, rfl⟩
 have hbrl : br < BR := by
  obtain ⟨a9, c9, hh, _⟩ := hR.ex
  rw [← hBR]
  exact lt_of_heap hh
 have hz0 := hU.size
 have hUn := Upd.alloc (fun _ => False) w1 (.cells #[.pointer (some ⟨br, 0, none⟩)] 139)
 have hrow := heap_alloc_new w1 (.cells #[.pointer (some ⟨br, 0, none⟩)] 139)
 have hL2 := ((hU.trans hUn).block L2 (lt_of_heap HI.out.2.1) (fun h => h)).trans HI.out.2.1
 have hltL := lt_of_heap HI.out.2.1
 have hUw := HI.out.2.2.trans (hU.trans hUn)
 rw [hBR] at hrow
 have HJ := Lib.hid (And.intro (hR.upd hUn (fun h => h) (fun _ _ h => h)) (And.intro hrow (And.intro hL2 hUw)))
 have hnum := rnum_any br F ⟨l, 0⟩ 1 _ HJ.out.1 (by show l.length ≤ _; omega)
 rw [HK.out.1] at hnum
 unfold ReadN at hnum
 dsimp only at hnum
 rw [HK.out.2.1] at hnum
 have hF2 : ∀ g, F = some g → g < BR := fun g hg => by have := (hF g hg).2; omega
 have hbrL : L2 < br := by omega
 have HN := Lib.hid (And.intro hbrl (And.intro hF2 (And.intro hbrL (fun g (hg : F = some g) => show L2 < g from by have := (hF g hg).1; omega))))
 have HS1 : Hid ((s1L l).l.length ≤ 100000000) := Lib.hid (by have := HK.out.2.2; omega)
 clear hR hU hbr hF hbrl hz0 hUn hrow hL2 hltL hUw hF2 hbrL HI HK
 generalize s1L l = s1 at *
 go_upto_region 5 with (fail)
 generalize w1.alloc (.cells #[.pointer (some ⟨br, 0, none⟩)] 139) = w2 at *
 clear hBR
 have q : w2.cell? ⟨BR, 0, none⟩ = some (.pointer (some ⟨br, 0, none⟩)) := by rw [cell_of_row _ _ _ _ _ _ HJ.out.2.1]; rfl
 go_wp2_with fail
 refine hnum.mono ?_
 rintro e w3 ⟨rfl, hR, hU⟩
 have hn1 := HN.out.1
 have hn2 := HN.out.2.2.1
 have hrow := (hU.block BR (lt_of_heap HJ.out.2.1) (by omega)).trans HJ.out.2.1
 have hL2 := (hU.block L2 (lt_of_heap HJ.out.2.2.1) (by omega)).trans HJ.out.2.2.1
 have hBz := lt_of_heap hrow
 have HB' := HB.out
 have hUw : Upd (fun _ => False) w w3 := HJ.out.2.2.2.next hU (fun i hi e => by omega)
 have HR := Lib.hid (And.intro hR (And.intro hrow (And.intro hL2 (And.intro hUw hBz))))
 clear q hnum
 have q : w3.cell? ⟨BR, 0, none⟩ = some (.pointer (some ⟨br, 0, none⟩)) := by rw [cell_of_row _ _ _ _ _ _ hrow]; rfl
 clear hR hU hrow hL2 hUw hBz HB' hn1 hn2 HJ
 have HPM := Lib.hid (fun w' => mPackDrop_anyP w')
 go_wp2_with fail
 refine (HPM.out _).mono ?_
 rintro e w6 ⟨a3, c3, rfl, hv3, hf3, hU6⟩
 have hse := slEqB_any a3 a c3 c ([4] : List UInt8) l w6 hv3 (HI0.out.upd (HR.out.2.2.2.1.trans hU6) (fun _ _ h => h))
 rw [← HOK.out] at hse
 have HY := Lib.hid (And.intro ((hU6.block L2 (lt_of_heap HR.out.2.2.1) (fun h => h)).trans HR.out.2.2.1) (HR.out.2.2.2.1.trans hU6))
 clear hv3 hf3 hU6 q HR HN HB
 go_wp2_with fail
 refine hse.mono ?_
 rintro e w7 ⟨rfl, hU7⟩
 have HZ := Lib.hid (And.intro ((hU7.block L2 (lt_of_heap HY.out.1) (fun h => h)).trans HY.out.1) (HY.out.2.trans hU7))
 clear hse hU7 HY
 cases OO with
 | false =>
  go_wp2_with fail
  try go_ret2
  exact HG0.out (by first | rfl | trivial) _ _ ⟨rfl, HZ.out.2⟩
 | true =>
  go_wp2_with fail
  try go_ret2
  exact HG1.out (by first | rfl | trivial) _ _ ⟨L2, rfl, HZ.out.1, HZ.out.2⟩
set_option maxHeartbeats 16000000 in
theorem read_noneX (lb : Nat) (a : Option Addr) (c : Nat) (l : List UInt8) (w : World) (hv : Vw w a l.length c 1 (bvs l)) (hl : l.length ≤ 70000000) (hk : kindL l ≠ 1 ∧ kindL l ≠ 2 ∧ kindL l ≠ 3 ∧ kindL l ≠ 4) :
  Calls Tryz.prog 57 #[.pointer (some ⟨lb, 0, none⟩), .slice a l.length c] w (ReadNo w) := by
 generalize hGG : ReadNo w = GG
 have HG0 : Hid (∀ e w', ReadNo w e w' → GG e w') := Lib.hid (fun e w' h => hGG ▸ h)
 clear hGG
 have hU0 := Upd.alloc (fun _ => False) w (.cells #[.pointer (some ⟨lb, 0, none⟩)] 42)
 have hb0 := heap_alloc_new w (.cells #[.pointer (some ⟨lb, 0, none⟩)] 42)
 have HI0 := Lib.hid hv
 have HI := Lib.hid (And.intro (hv.upd hU0 (fun _ _ h => h)) (And.intro hb0 hU0))
 have hkk : takeS (heldN 1) ⟨l, 0⟩ = ((takeS 1 ⟨l, 0⟩).1, s1L l) := rfl
 have hkl : leN (takeS 1 ⟨l, 0⟩).1 = kindL l := rfl
 have HKN := Lib.hid hk
 have hs1 : (s1L l).l.length ≤ l.length := takeS_len 1 ⟨l, 0⟩
 have HK := Lib.hid (And.intro hkk (And.intro hkl hs1))
 clear hv hU0 hb0 hkk hkl hs1 hk
 go_enter Tryz.func57, Tryz.ntmps57
 go_upto_region 1 with (fail)
 generalize w.alloc (.cells #[.pointer (some ⟨lb, 0, none⟩)] 42) = y0 at *
 obtain ⟨L2, hL2⟩ : ∃ B, w.heap.size = B := ⟨_, rfl⟩
 rw [hL2] at HI ⊢
 have HB := Lib.hid hL2
 clear hL2
 go_wp2_with fail
 refine (read_any3 a c l y0 HI.out.1 (by omega)).mono ?_
 rintro e w1 ⟨br, F, rfl, hR, hU, hbr, hF⟩
 obtain ⟨BR, hBR⟩ : ∃ B, w1.heap.size = B := ⟨_, rfl⟩
 have hbrl : br < BR := by
  obtain ⟨a9, c9, hh, _⟩ := hR.ex
  rw [← hBR]
  exact lt_of_heap hh
 have hz0 := hU.size
 have hUn := Upd.alloc (fun _ => False) w1 (.cells #[.pointer (some ⟨br, 0, none⟩)] 139)
 have hrow := heap_alloc_new w1 (.cells #[.pointer (some ⟨br, 0, none⟩)] 139)
 have hL2 := ((hU.trans hUn).block L2 (lt_of_heap HI.out.2.1) (fun h => h)).trans HI.out.2.1
 have hltL := lt_of_heap HI.out.2.1
 have hUw := HI.out.2.2.trans (hU.trans hUn)
 rw [hBR] at hrow
 have HJ := Lib.hid (And.intro (hR.upd hUn (fun h => h) (fun _ _ h => h)) (And.intro hrow (And.intro hL2 hUw)))
 have hnum := rnum_any br F ⟨l, 0⟩ 1 _ HJ.out.1 (by show l.length ≤ _; omega)
 rw [HK.out.1] at hnum
 unfold ReadN at hnum
 dsimp only at hnum
 rw [HK.out.2.1] at hnum
 have hF2 : ∀ g, F = some g → g < BR := fun g hg => by have := (hF g hg).2; omega
 have hbrL : L2 < br := by omega
 have HN := Lib.hid (And.intro hbrl (And.intro hF2 (And.intro hbrL (fun g (hg : F = some g) => show L2 < g from by have := (hF g hg).1; omega))))
 have HS1 : Hid ((s1L l).l.length ≤ 100000000) := Lib.hid (by have := HK.out.2.2; omega)
 clear hR hU hbr hF hbrl hz0 hUn hrow hL2 hltL hUw hF2 hbrL HI HK
 generalize s1L l = s1 at *
 go_upto_region 5 with (fail)
 generalize w1.alloc (.cells #[.pointer (some ⟨br, 0, none⟩)] 139) = w2 at *
 clear hBR
 have q : w2.cell? ⟨BR, 0, none⟩ = some (.pointer (some ⟨br, 0, none⟩)) := by rw [cell_of_row _ _ _ _ _ _ HJ.out.2.1]; rfl
 go_wp2_with fail
 refine hnum.mono ?_
 rintro e w3 ⟨rfl, hR, hU⟩
 have hn1 := HN.out.1
 have hn2 := HN.out.2.2.1
 have hrow := (hU.block BR (lt_of_heap HJ.out.2.1) (by omega)).trans HJ.out.2.1
 have hL2 := (hU.block L2 (lt_of_heap HJ.out.2.2.1) (by omega)).trans HJ.out.2.2.1
 have hBz := lt_of_heap hrow
 have HB' := HB.out
 have hUw : Upd (fun _ => False) w w3 := HJ.out.2.2.2.next hU (fun i hi e => by omega)
 have HR := Lib.hid (And.intro hR (And.intro hrow (And.intro hL2 (And.intro hUw hBz))))
 clear q hnum
 have q : w3.cell? ⟨BR, 0, none⟩ = some (.pointer (some ⟨br, 0, none⟩)) := by rw [cell_of_row _ _ _ _ _ _ hrow]; rfl
 clear hR hU hrow hL2 hUw hBz HB' hn1 hn2 HJ
 generalize kindL l = kk at *
 have hk1 : ((kk : Int) == 1) = false := beq_false_of_ne (by have := HKN.out.1; omega)
 have hk2 : ((kk : Int) == 2) = false := beq_false_of_ne (by have := HKN.out.2.1; omega)
 have hk3 : ((kk : Int) == 3) = false := beq_false_of_ne (by have := HKN.out.2.2.1; omega)
 have hk4 : ((kk : Int) == 4) = false := beq_false_of_ne (by have := HKN.out.2.2.2; omega)
 go_wp2_with fail
 try go_ret2
 exact HG0.out _ _ ⟨rfl, HR.out.2.2.2.1⟩
end Go.Proofs.YtccejkikphpnfaaGreatDoor
