
/- Records that are known are added; At, Records, New in general. -/
import Derived.Test.YtccejkikphpnfaaGreatDoorWaF
import Derived.Test.YtccejkikphpnfaaGreatDoorWaE
import Derived.Test.YtccejkikphpnfaaGreatDoorWaD
import Derived.Test.YtccejkikphpnfaaGreatDoorWaB
import Derived.Test.YtccejkikphpnfaaGreatDoorWn
namespace Go.Proofs.YtccejkikphpnfaaGreatDoor
set_option linter.unusedSimpArgs false
set_option linter.unusedVariables false
set_option maxRecDepth 100000
open Go.ChangeShapes Go.WideShapes Go.ChangeAt Go.RowKit

/-- In the middle of reading a move. -/
structure MMs (w : World) (br BR L2 lb : Nat) (F : Option Nat) (l : RS) (o1 o2 : Option Nat) (v1 : Int) (v2 : Bool) (wk : World) : Prop where
  rd : Rd wk br F l.l l.e
  row : wk.heap[BR]? = some (.cells #[.pointer (some ⟨br, 0, none⟩)] 139)
  l2 : wk.heap[L2]? = some (.cells #[.pointer (some ⟨lb, 0, none⟩)] 42)
  b1 : ∀ b, o1 = some b → wk.heap[b]? = some (.cells #[.int .i64 v1] 3) ∧ BR < b
  b2 : ∀ b, o2 = some b → wk.heap[b]? = some (.cells #[.bool v2] 4) ∧ BR < b
  ne : ∀ x y, o1 = some x → o2 = some y → x ≠ y
  upd : Upd (fun _ => False) w wk
  n1 : br < BR
  n2 : L2 < br
  n3 : ∀ g, F = some g → L2 < g ∧ g < BR
  n4 : w.heap.size ≤ L2
section
variable {w : World} {br BR L2 lb : Nat} {F : Option Nat} {l l' : RS} {o1 o2 : Option Nat} {v1 : Int} {v2 : Bool} {wk w' : World}
theorem MMs.q (h : MMs w br BR L2 lb F l o1 o2 v1 v2 wk) : wk.cell? ⟨BR, 0, none⟩ = some (.pointer (some ⟨br, 0, none⟩)) := by rw [cell_of_row _ _ _ _ _ _ h.row]; rfl
theorem MMs.read (h : MMs w br BR L2 lb F l o1 o2 v1 v2 wk) (hR : Rd w' br F l'.l l'.e) (hU : Upd (fun k => k = br) wk w') : MMs w br BR L2 lb F l' o1 o2 v1 v2 w' := by
  have h1 := h.n1; have h2 := h.n2; have h4 := h.n4
  exact ⟨hR, (hU.block BR (lt_of_heap h.row) (by omega)).trans h.row, (hU.block L2 (lt_of_heap h.l2) (by omega)).trans h.l2,
    fun b hb => ⟨(hU.block b (lt_of_heap (h.b1 b hb).1) (by have := (h.b1 b hb).2; omega)).trans (h.b1 b hb).1, (h.b1 b hb).2⟩,
    fun b hb => ⟨(hU.block b (lt_of_heap (h.b2 b hb).1) (by have := (h.b2 b hb).2; omega)).trans (h.b2 b hb).1, (h.b2 b hb).2⟩, h.ne, h.upd.next hU (fun i hi e => by omega), h1, h2, h.n3, h4⟩
theorem MMs.same (h : MMs w br BR L2 lb F l o1 o2 v1 v2 wk) (hU : Upd (fun _ => False) wk w') : MMs w br BR L2 lb F l o1 o2 v1 v2 w' :=
  h.read (h.rd.upd hU (fun h => h) (fun _ _ h => h)) (hU.mono (fun _ _ h => h.elim))
theorem MMs.al1 (h : MMs w br BR L2 lb F l none o2 v1 v2 wk) : MMs w br BR L2 lb F l (some wk.heap.size) o2 0 v2 (wk.alloc (.cells #[.int .i64 0] 3)) := by
  have hs := h.same (Upd.alloc (fun _ => False) wk (.cells #[.int .i64 0] 3))
  exact ⟨hs.rd, hs.row, hs.l2, fun b hb => by cases hb; exact ⟨heap_alloc_new _ _, lt_of_heap h.row⟩, hs.b2, fun x y hx hy => by cases hx; have := lt_of_heap (h.b2 y hy).1; omega, hs.upd, h.n1, h.n2, h.n3, h.n4⟩
theorem MMs.al2 (h : MMs w br BR L2 lb F l o1 none v1 v2 wk) : MMs w br BR L2 lb F l o1 (some wk.heap.size) v1 false (wk.alloc (.cells #[.bool false] 4)) := by
  have hs := h.same (Upd.alloc (fun _ => False) wk (.cells #[.bool false] 4))
  exact ⟨hs.rd, hs.row, hs.l2, hs.b1, fun b hb => by cases hb; exact ⟨heap_alloc_new _ _, lt_of_heap h.row⟩, fun x y hx hy => by cases hy; have := lt_of_heap (h.b1 x hx).1; omega, hs.upd, h.n1, h.n2, h.n3, h.n4⟩
theorem MMs.set (h : MMs w br BR L2 lb F l o1 o2 v1 v2 wk) (b : Nat) (u : Value) (hb : BR < b) (h1 : ∀ x, o1 = some x → x ≠ b) (h2 : ∀ x, o2 = some x → x ≠ b) : MMs w br BR L2 lb F l o1 o2 v1 v2 (wk.setCell ⟨b, 0, none⟩ u) := by
  have hU := Upd.setCell (S := fun k => k = b) wk (p := ⟨b, 0, none⟩) rfl u
  have n1 := h.n1; have n2 := h.n2; have n4 := h.n4
  exact ⟨h.rd.upd hU (by omega) (fun g hg e => by have := h.n3 g hg; omega), (hU.block BR (lt_of_heap h.row) (by omega)).trans h.row, (hU.block L2 (lt_of_heap h.l2) (by omega)).trans h.l2,
    fun x hx => ⟨(hU.block x (lt_of_heap (h.b1 x hx).1) (h1 x hx)).trans (h.b1 x hx).1, (h.b1 x hx).2⟩, fun x hx => ⟨(hU.block x (lt_of_heap (h.b2 x hx).1) (h2 x hx)).trans (h.b2 x hx).1, (h.b2 x hx).2⟩, h.ne, h.upd.next hU (fun i hi e => by omega), n1, n2, h.n3, n4⟩
variable {d1 d2 : Nat}
theorem MMs.c1 (h : MMs w br BR L2 lb F l (some d1) o2 v1 v2 wk) : wk.cell? ⟨d1, 0, none⟩ = some (.int .i64 v1) := by rw [cell_of_row _ _ _ _ _ _ (h.b1 d1 rfl).1]; rfl
theorem MMs.c2 (h : MMs w br BR L2 lb F l o1 (some d2) v1 v2 wk) : wk.cell? ⟨d2, 0, none⟩ = some (.bool v2) := by rw [cell_of_row _ _ _ _ _ _ (h.b2 d2 rfl).1]; rfl
theorem MMs.f1 (h : MMs w br BR L2 lb F l (some d1) o2 v1 v2 wk) : wk.frozen? ⟨d1, 0, none⟩ = false := free_row (h.b1 d1 rfl).1
theorem MMs.f2 (h : MMs w br BR L2 lb F l o1 (some d2) v1 v2 wk) : wk.frozen? ⟨d2, 0, none⟩ = false := free_row (h.b2 d2 rfl).1
theorem MMs.no1 (h : MMs w br BR L2 lb F l o1 o2 v1 v2 wk) (v : Int) : MMs w br BR L2 lb F l none o2 v v2 wk :=
  ⟨h.rd, h.row, h.l2, (fun b hb => by cases hb), h.b2, (fun x y hx hy => by cases hx), h.upd, h.n1, h.n2, h.n3, h.n4⟩
theorem MMs.no2 (h : MMs w br BR L2 lb F l o1 o2 v1 v2 wk) (v : Bool) : MMs w br BR L2 lb F l o1 none v1 v wk :=
  ⟨h.rd, h.row, h.l2, h.b1, (fun b hb => by cases hb), (fun x y hx hy => by cases hy), h.upd, h.n1, h.n2, h.n3, h.n4⟩
theorem MMs.st1 (h : MMs w br BR L2 lb F l (some d1) o2 v1 v2 wk) (v : Int) : MMs w br BR L2 lb F l (some d1) o2 v v2 (wk.setCell ⟨d1, 0, none⟩ (.int .i64 v)) := by
  have hs := (h.no1 v).set d1 (.int .i64 v) (h.b1 d1 rfl).2 (fun x hx => by cases hx) (fun x hx e => h.ne d1 x rfl hx e.symm)
  have hr := setCell_heap 0 (.int .i64 v) (h.b1 d1 rfl).1
  exact ⟨hs.rd, hs.row, hs.l2, fun b hb => by cases hb; exact ⟨by simpa using hr, (h.b1 d1 rfl).2⟩, hs.b2, h.ne, hs.upd, h.n1, h.n2, h.n3, h.n4⟩
theorem MMs.st2 (h : MMs w br BR L2 lb F l o1 (some d2) v1 v2 wk) (v : Bool) : MMs w br BR L2 lb F l o1 (some d2) v1 v (wk.setCell ⟨d2, 0, none⟩ (.bool v)) := by
  have hs := (h.no2 v).set d2 (.bool v) (h.b2 d2 rfl).2 (fun x hx => h.ne x d2 hx rfl) (fun x hx => by cases hx)
  have hr := setCell_heap 0 (.bool v) (h.b2 d2 rfl).1
  exact ⟨hs.rd, hs.row, hs.l2, hs.b1, fun b hb => by cases hb; exact ⟨by simpa using hr, (h.b2 d2 rfl).2⟩, h.ne, hs.upd, h.n1, h.n2, h.n3, h.n4⟩
end

def mvV (l : List UInt8) : Int := intV (s1L l)
def mvR (l : List UInt8) : Bool := (boolS (takeS 4 (s1L l)).2).1
def okMove (l : List UInt8) : Bool := moveL (intV (s1L l)) (boolS (takeS 4 (s1L l)).2).1 == l
def DoMove (w : World) (lb : Nat) (v : Int) (redo : Bool) (e : Ending) (w' : World) : Prop :=
  ∃ L2 c1 c2, e = .returned (.tuple #[.func (.func 100) #[] #[.pointer (some ⟨L2, 0, none⟩), .pointer (some ⟨c1, 0, none⟩), .pointer (some ⟨c2, 0, none⟩)], .int .i64 0]) ∧ w'.heap[L2]? = some (.cells #[.pointer (some ⟨lb, 0, none⟩)] 42) ∧
    w'.heap[c1]? = some (.cells #[.int .i64 v] 3) ∧ w'.heap[c2]? = some (.cells #[.bool redo] 4) ∧ Upd (fun _ => False) w w'
def ReadMv (w : World) (lb : Nat) (l : List UInt8) (e : Ending) (w' : World) : Prop := if okMove l = true then DoMove w lb (mvV l) (mvR l) e w' else ReadNo w e w'
def okDrop (l : List UInt8) : Bool := [4] == l
def DoDrop (w : World) (lb : Nat) (e : Ending) (w' : World) : Prop :=
  ∃ L2, e = .returned (.tuple #[.func (.func 104) #[] #[.pointer (some ⟨L2, 0, none⟩)], .int .i64 0]) ∧ w'.heap[L2]? = some (.cells #[.pointer (some ⟨lb, 0, none⟩)] 42) ∧ Upd (fun _ => False) w w'
def ReadDp (w : World) (lb : Nat) (l : List UInt8) (e : Ending) (w' : World) : Prop := if okDrop l = true then DoDrop w lb e w' else ReadNo w e w'
theorem mPackDrop_anyP (w : World) : Calls Tryz.prog 18 #[] w (Made w [4]) := by
  have hown := lit_own w 4
  have HO := Lib.hid hown
  clear hown
  go_enter Tryz.func18, Tryz.ntmps18
  go_wp2
  go_ret
  exact ⟨some ⟨w.heap.size, 0, none⟩, 1, rfl, Vw.of_own HO.out, fun g hg => by cases hg; exact ⟨Nat.le_refl _, by simp⟩, Upd.alloc _ _ _⟩

set_option maxHeartbeats 16000000 in
theorem read_moveX (lb : Nat) (a : Option Addr) (c : Nat) (l : List UInt8) (w : World) (hv : Vw w a l.length c 1 (bvs l)) (hl : l.length ≤ 70000000) (hk : kindL l = 2) :
    Calls Tryz.prog 57 #[.pointer (some ⟨lb, 0, none⟩), .slice a l.length c] w (ReadMv w lb l) := by
  have HOK : Hid (okMove l = (moveL (intV (s1L l)) (boolS (takeS 4 (s1L l)).2).1 == l)) := Lib.hid rfl
  have HG1 : Hid (okMove l = true → ∀ e w', DoMove w lb (intV (s1L l)) (boolS (takeS 4 (s1L l)).2).1 e w' → ReadMv w lb l e w') := Lib.hid (fun h e w' hd => by unfold ReadMv; rw [if_pos h]; exact hd)
  have HG0 : Hid (okMove l = false → ∀ e w', ReadNo w e w' → ReadMv w lb l e w') := Lib.hid (fun h e w' hd => by unfold ReadMv; rw [h, if_neg (by decide)]; exact hd)
  generalize ReadMv w lb l = GG at *
  generalize okMove l = OO at *
  have hU0 := Upd.alloc (fun _ => False) w (.cells #[.pointer (some ⟨lb, 0, none⟩)] 42)
  have hb0 := heap_alloc_new w (.cells #[.pointer (some ⟨lb, 0, none⟩)] 42)
  have HI0 := Lib.hid hv
  have HI := Lib.hid (And.intro (hv.upd hU0 (fun _ _ h => h)) (And.intro hb0 hU0))
  have hkk : takeS (heldN 1) ⟨l, 0⟩ = ((takeS 1 ⟨l, 0⟩).1, s1L l) := rfl
  have hkl : leN (takeS 1 ⟨l, 0⟩).1 = 2 := hk
  have hs1 : (s1L l).l.length ≤ l.length := takeS_len 1 ⟨l, 0⟩
  have HK := Lib.hid (And.intro hkk (And.intro hkl hs1))
  clear hv hU0 hb0 hkk hkl hs1 hk
  go_enter Tryz.func57, Tryz.ntmps57
  go_upto_region 1 with (fail)
  generalize w.alloc (.cells #[.pointer (some ⟨lb, 0, none⟩)] 42) = y0 at *
  obtain ⟨L2, hL2⟩ : ∃ B, w.heap.size = B := ⟨_, rfl⟩
  rw [hL2] at HI ⊢
  have HB := Lib.hid hL2
  clear hL2
  go_wp2_with fail
  refine (read_any3 a c l y0 HI.out.1 (by omega)).mono ?_
  rintro e w1 ⟨br, F, rfl, hR, hU, hbr, hF⟩
  obtain ⟨BR, hBR⟩ : ∃ B, w1.heap.size = B := ⟨_, rfl⟩
  have hbrl : br < BR := by
    obtain ⟨a9, c9, hh, _⟩ := hR.ex
    rw [← hBR]
    exact lt_of_heap hh
  have hz0 := hU.size
  have hUn := Upd.alloc (fun _ => False) w1 (.cells #[.pointer (some ⟨br, 0, none⟩)] 139)
  have hrow := heap_alloc_new w1 (.cells #[.pointer (some ⟨br, 0, none⟩)] 139)
  have hL2 := ((hU.trans hUn).block L2 (lt_of_heap HI.out.2.1) (fun h => h)).trans HI.out.2.1
  have hltL := lt_of_heap HI.out.2.1
  have hUw := HI.out.2.2.trans (hU.trans hUn)
  rw [hBR] at hrow
  have HJ := Lib.hid (And.intro (hR.upd hUn (fun h => h) (fun _ _ h => h)) (And.intro hrow (And.intro hL2 hUw)))
  have hnum := rnum_any br F ⟨l, 0⟩ 1 _ HJ.out.1 (by show l.length ≤ _; omega)
  rw [HK.out.1] at hnum
  unfold ReadN at hnum
  dsimp only at hnum
  rw [HK.out.2.1] at hnum
  have hF2 : ∀ g, F = some g → g < BR := fun g hg => by have := (hF g hg).2; omega
  have hbrL : L2 < br := by omega
  have HN := Lib.hid (And.intro hbrl (And.intro hF2 (And.intro hbrL (fun g (hg : F = some g) => show L2 < g from by have := (hF g hg).1; omega))))
  have HS1 : Hid ((s1L l).l.length ≤ 100000000) := Lib.hid (by have := HK.out.2.2; omega)
  clear hR hU hbr hF hbrl hz0 hUn hrow hL2 hltL hUw hF2 hbrL HI HK
  generalize s1L l = s1 at *
  go_upto_region 5 with (fail)
  generalize w1.alloc (.cells #[.pointer (some ⟨br, 0, none⟩)] 139) = w2 at *
  clear hBR
  have q : w2.cell? ⟨BR, 0, none⟩ = some (.pointer (some ⟨br, 0, none⟩)) := by rw [cell_of_row _ _ _ _ _ _ HJ.out.2.1]; rfl
  go_wp2_with fail
  refine hnum.mono ?_
  rintro e w3 ⟨rfl, hR, hU⟩
  have hn1 := HN.out.1
  have hn2 := HN.out.2.2.1
  have hrow := (hU.block BR (lt_of_heap HJ.out.2.1) (by omega)).trans HJ.out.2.1
  have hL2 := (hU.block L2 (lt_of_heap HJ.out.2.2.1) (by omega)).trans HJ.out.2.2.1
  have hBz := lt_of_heap hrow
  have HB' := HB.out
  have hUw : Upd (fun _ => False) w w3 := HJ.out.2.2.2.next hU (fun i hi e => by omega)
  have HR := Lib.hid (And.intro hR (And.intro hrow (And.intro hL2 (And.intro hUw hBz))))
  clear q hnum
  have q : w3.cell? ⟨BR, 0, none⟩ = some (.pointer (some ⟨br, 0, none⟩)) := by rw [cell_of_row _ _ _ _ _ _ hrow]; rfl
  clear hR hU hrow hL2 hUw hBz HB' hn1 hn2 HJ
  have HM1 : Hid (MMs w br BR L2 lb F s1 none none 0 false w3) := Lib.hid
    ⟨HR.out.1, HR.out.2.1, HR.out.2.2.1, (fun b hb => by cases hb), (fun b hb => by cases hb), (fun x y hx hy => by cases hx), HR.out.2.2.2.1, HN.out.1, HN.out.2.2.1, (fun g hg => ⟨HN.out.2.2.2 g hg, HN.out.2.1 g hg⟩), Nat.le_of_eq HB.out⟩
  have hs2 : (takeS 4 s1).2.l.length ≤ s1.l.length := takeS_len 4 s1
  have HN1 : Hid (∀ wk, Rd wk br F s1.l s1.e → Calls Tryz.prog 98 #[.pointer (some ⟨br, 0, none⟩)] wk fun e w' => e = .returned (.int .i64 (intV s1)) ∧ Rd w' br F (takeS 4 s1).2.l (takeS 4 s1).2.e ∧ Upd (fun k => k = br) wk w') := Lib.hid (fun wk h => rint_any br F s1 wk h HS1.out)
  have HN2 : Hid (∀ wk, Rd wk br F (takeS 4 s1).2.l (takeS 4 s1).2.e → Calls Tryz.prog 99 #[.pointer (some ⟨br, 0, none⟩)] wk fun e w' => e = .returned (.bool (boolS (takeS 4 s1).2).1) ∧ Rd w' br F (boolS (takeS 4 s1).2).2.l (boolS (takeS 4 s1).2).2.e ∧ Upd (fun k => k = br) wk w') := Lib.hid (fun wk h => rbool_any br F _ wk h (Nat.le_trans hs2 HS1.out))
  have HPM := Lib.hid (fun w' => mPackMove_any (intV s1) (boolS (takeS 4 s1).2).1 w')
  clear hs2 HR HN HB HS1
  generalize moveL (intV s1) (boolS (takeS 4 s1).2).1 = ML at *
  generalize (boolS (takeS 4 s1).2).2 = s3 at *
  generalize (boolS (takeS 4 s1).2).1 = redo at *
  generalize (takeS 4 s1).2 = s2 at *
  generalize intV s1 = v at *
  go_upto_region 11 with (fail)
  go_cut [11, 12] (fun s11 s12 wx => ∃ c1 c2, s11 = .pointer (some ⟨c1, 0, none⟩) ∧ s12 = .pointer (some ⟨c2, 0, none⟩) ∧ Hid (MMs w br BR L2 lb F s3 (some c1) (some c2) v redo wx))
  case first =>
    have hqd := (HM1.out.same (Upd.drew _ _)).q
    clear q
    refine wp_region_tri (.three [0, 1, 3, 4] 2 (.three [] 5 (.two [] 6 (.one [] 7 (.one [] 8 (.one [] 9 (.last [])))) 7 (.one [] 6 (.one [] 8 (.one [] 9 (.last []))))) 6 (.two [] 5 (.one [] 7 (.one [] 8 (.one [] 9 (.last [])))) 7 (.one [] 5 (.one [] 8 (.one [] 9 (.last []))))) 7 (.two [] 5 (.one [] 6 (.one [] 8 (.one [] 9 (.last [])))) 6 (.one [] 5 (.one [] 8 (.one [] 9 (.last [])))))) 6 (.two [] 2 (.two [] 5 (.one [] 7 (.one [] 8 (.one [] 9 (.last [])))) 7 (.one [] 5 (.one [] 8 (.one [] 9 (.last []))))) 7 (.one [] 2 (.one [] 5 (.one [] 8 (.one [] 9 (.last [])))))) 7 (.two [] 2 (.two [] 5 (.one [] 6 (.one [] 8 (.one [] 9 (.last [])))) 6 (.one [] 5 (.one [] 8 (.one [] 9 (.last []))))) 6 (.one [] 2 (.one [] 5 (.one [] 8 (.one [] 9 (.last []))))))) (fun w' => w'.cell? ⟨BR, 0, none⟩ = some (.pointer (some ⟨br, 0, none⟩))) (by kernel_rfl) (by kernel_rfl) hqd ?_
    iterate 4
      refine tri_take3 (v := ?_) rfl rfl (fun w' hS => ?_) ?_
      rotate_left
      · skip
        go_simp; try with_reducible rfl
      simp only [Act.put, List.getElem_toArray, List.getElem_cons_zero, List.getElem_cons_succ, List.setIfInBounds_toArray, List.set_cons_zero, List.set_cons_succ]
    have HM := Lib.hid (HM1.out.same (Upd.drew (fun _ => False) w3))
    clear hqd HM1
    generalize w3.drew = x0 at *
    refine tri_all ?_ ?_ ?_
    · refine tri_act rfl (fun K2 hK2 => ?_)
      go_wp2_with fail
      refine (HN1.out _ HM.out.rd).mono ?_
      rintro e x1 ⟨rfl, hR, hU⟩
      have HMa := Lib.hid (HM.out.read hR hU)
      clear hR hU HM
      have HM := HMa
      clear HMa
      have hq := HM.out.q
      go_wp2_with fail
      refine hK2.out _ _ hq ?_
      clear hq
      refine tri_all ?_ ?_ ?_
      · refine tri_act rfl (fun K5 hK5 => ?_)
        go_wp2_with fail
        refine (HN2.out _ HM.out.rd).mono ?_
        rintro e x2 ⟨rfl, hR, hU⟩
        have HMa := Lib.hid (HM.out.read hR hU)
        clear hR hU HM
        have HM := HMa
        clear HMa
        have hq := HM.out.q
        go_wp2_with fail
        refine hK5.out _ _ hq ?_
        clear hq
        refine tri_both ?_ ?_
        · refine tri_act rfl (fun K6 hK6 => ?_)
          have HMa := Lib.hid (HM.out.al1)
          clear HM
          have HM := HMa
          clear HMa
          have hq := HM.out.q
          go_wp2_with fail
          refine hK6.out _ _ hq ?_
          clear hq
          generalize x2.alloc (.cells #[.int .i64 0] 3) = x3 at *
          generalize x2.heap.size = c1 at *
          refine tri_act rfl (fun K7 hK7 => ?_)
          have HMa := Lib.hid (HM.out.al2)
          clear HM
          have HM := HMa
          clear HMa
          have hq := HM.out.q
          go_wp2_with fail
          refine hK7.out _ _ hq ?_
          clear hq
          generalize x3.alloc (.cells #[.bool false] 4) = x4 at *
          generalize x3.heap.size = c2 at *
          refine tri_act rfl (fun K8 hK8 => ?_)
          have hc := HM.out.c1
          have hf := HM.out.f1
          have HMa := Lib.hid (HM.out.st1 v)
          have hq := HMa.out.q
          go_wp2_with fail
          refine hK8.out _ _ hq ?_
          clear hq hc hf HM
          generalize x4.setCell ⟨c1, 0, none⟩ (.int .i64 v) = x8 at *
          refine tri_act rfl (fun K9 hK9 => ?_)
          have hc := HMa.out.c2
          have hf := HMa.out.f2
          have HMb := Lib.hid (HMa.out.st2 redo)
          have hq := HMb.out.q
          go_wp2_with fail
          refine hK9.out _ _ hq ?_
          refine tri_end ?_
          clear hq hc hf HMa
          generalize x8.setCell ⟨c2, 0, none⟩ (.bool redo) = x9 at *
          go_wp2_with fail
          go_meet
          case rel => exact ⟨c1, c2, rfl, rfl, HMb⟩
        · refine tri_act rfl (fun K7 hK7 => ?_)
          have HMa := Lib.hid (HM.out.al2)
          clear HM
          have HM := HMa
          clear HMa
          have hq := HM.out.q
          go_wp2_with fail
          refine hK7.out _ _ hq ?_
          clear hq
          generalize x2.alloc (.cells #[.bool false] 4) = x3 at *
          generalize x2.heap.size = c2 at *
          refine tri_act rfl (fun K6 hK6 => ?_)
          have HMa := Lib.hid (HM.out.al1)
          clear HM
          have HM := HMa
          clear HMa
          have hq := HM.out.q
          go_wp2_with fail
          refine hK6.out _ _ hq ?_
          clear hq
          generalize x3.alloc (.cells #[.int .i64 0] 3) = x4 at *
          generalize x3.heap.size = c1 at *
          refine tri_act rfl (fun K8 hK8 => ?_)
          have hc := HM.out.c1
          have hf := HM.out.f1
          have HMa := Lib.hid (HM.out.st1 v)
          have hq := HMa.out.q
          go_wp2_with fail
          refine hK8.out _ _ hq ?_
          clear hq hc hf HM
          generalize x4.setCell ⟨c1, 0, none⟩ (.int .i64 v) = x8 at *
          refine tri_act rfl (fun K9 hK9 => ?_)
          have hc := HMa.out.c2
          have hf := HMa.out.f2
          have HMb := Lib.hid (HMa.out.st2 redo)
          have hq := HMb.out.q
          go_wp2_with fail
          refine hK9.out _ _ hq ?_
          refine tri_end ?_
          clear hq hc hf HMa
          generalize x8.setCell ⟨c2, 0, none⟩ (.bool redo) = x9 at *
          go_wp2_with fail
          go_meet
          case rel => exact ⟨c1, c2, rfl, rfl, HMb⟩
      · refine tri_act rfl (fun K6 hK6 => ?_)
        have HMa := Lib.hid (HM.out.al1)
        clear HM
        have HM := HMa
        clear HMa
        have hq := HM.out.q
        go_wp2_with fail
        refine hK6.out _ _ hq ?_
        clear hq
        generalize x1.alloc (.cells #[.int .i64 0] 3) = x2 at *
        generalize x1.heap.size = c1 at *
        refine tri_both ?_ ?_
        · refine tri_act rfl (fun K5 hK5 => ?_)
          go_wp2_with fail
          refine (HN2.out _ HM.out.rd).mono ?_
          rintro e x3 ⟨rfl, hR, hU⟩
          have HMa := Lib.hid (HM.out.read hR hU)
          clear hR hU HM
          have HM := HMa
          clear HMa
          have hq := HM.out.q
          go_wp2_with fail
          refine hK5.out _ _ hq ?_
          clear hq
          refine tri_act rfl (fun K7 hK7 => ?_)
          have HMa := Lib.hid (HM.out.al2)
          clear HM
          have HM := HMa
          clear HMa
          have hq := HM.out.q
          go_wp2_with fail
          refine hK7.out _ _ hq ?_
          clear hq
          generalize x3.alloc (.cells #[.bool false] 4) = x4 at *
          generalize x3.heap.size = c2 at *
          refine tri_act rfl (fun K8 hK8 => ?_)
          have hc := HM.out.c1
          have hf := HM.out.f1
          have HMa := Lib.hid (HM.out.st1 v)
          have hq := HMa.out.q
          go_wp2_with fail
          refine hK8.out _ _ hq ?_
          clear hq hc hf HM
          generalize x4.setCell ⟨c1, 0, none⟩ (.int .i64 v) = x8 at *
          refine tri_act rfl (fun K9 hK9 => ?_)
          have hc := HMa.out.c2
          have hf := HMa.out.f2
          have HMb := Lib.hid (HMa.out.st2 redo)
          have hq := HMb.out.q
          go_wp2_with fail
          refine hK9.out _ _ hq ?_
          refine tri_end ?_
          clear hq hc hf HMa
          generalize x8.setCell ⟨c2, 0, none⟩ (.bool redo) = x9 at *
          go_wp2_with fail
          go_meet
          case rel => exact ⟨c1, c2, rfl, rfl, HMb⟩
        · refine tri_act rfl (fun K7 hK7 => ?_)
          have HMa := Lib.hid (HM.out.al2)
          clear HM
          have HM := HMa
          clear HMa
          have hq := HM.out.q
          go_wp2_with fail
          refine hK7.out _ _ hq ?_
          clear hq
          generalize x2.alloc (.cells #[.bool false] 4) = x3 at *
          generalize x2.heap.size = c2 at *
          refine tri_act rfl (fun K5 hK5 => ?_)
          go_wp2_with fail
          refine (HN2.out _ HM.out.rd).mono ?_
          rintro e x4 ⟨rfl, hR, hU⟩
          have HMa := Lib.hid (HM.out.read hR hU)
          clear hR hU HM
          have HM := HMa
          clear HMa
          have hq := HM.out.q
          go_wp2_with fail
          refine hK5.out _ _ hq ?_
          clear hq
          refine tri_act rfl (fun K8 hK8 => ?_)
          have hc := HM.out.c1
          have hf := HM.out.f1
          have HMa := Lib.hid (HM.out.st1 v)
          have hq := HMa.out.q
          go_wp2_with fail
          refine hK8.out _ _ hq ?_
          clear hq hc hf HM
          generalize x4.setCell ⟨c1, 0, none⟩ (.int .i64 v) = x8 at *
          refine tri_act rfl (fun K9 hK9 => ?_)
          have hc := HMa.out.c2
          have hf := HMa.out.f2
          have HMb := Lib.hid (HMa.out.st2 redo)
          have hq := HMb.out.q
          go_wp2_with fail
          refine hK9.out _ _ hq ?_
          refine tri_end ?_
          clear hq hc hf HMa
          generalize x8.setCell ⟨c2, 0, none⟩ (.bool redo) = x9 at *
          go_wp2_with fail
          go_meet
          case rel => exact ⟨c1, c2, rfl, rfl, HMb⟩
      · refine tri_act rfl (fun K7 hK7 => ?_)
        have HMa := Lib.hid (HM.out.al2)
        clear HM
        have HM := HMa
        clear HMa
        have hq := HM.out.q
        go_wp2_with fail
        refine hK7.out _ _ hq ?_
        clear hq
        generalize x1.alloc (.cells #[.bool false] 4) = x2 at *
        generalize x1.heap.size = c2 at *
        refine tri_both ?_ ?_
        · refine tri_act rfl (fun K5 hK5 => ?_)
          go_wp2_with fail
          refine (HN2.out _ HM.out.rd).mono ?_
          rintro e x3 ⟨rfl, hR, hU⟩
          have HMa := Lib.hid (HM.out.read hR hU)
          clear hR hU HM
          have HM := HMa
          clear HMa
          have hq := HM.out.q
          go_wp2_with fail
          refine hK5.out _ _ hq ?_
          clear hq
          refine tri_act rfl (fun K6 hK6 => ?_)
          have HMa := Lib.hid (HM.out.al1)
          clear HM
          have HM := HMa
          clear HMa
          have hq := HM.out.q
          go_wp2_with fail
          refine hK6.out _ _ hq ?_
          clear hq
          generalize x3.alloc (.cells #[.int .i64 0] 3) = x4 at *
          generalize x3.heap.size = c1 at *
          refine tri_act rfl (fun K8 hK8 => ?_)
          have hc := HM.out.c1
          have hf := HM.out.f1
          have HMa := Lib.hid (HM.out.st1 v)
          have hq := HMa.out.q
          go_wp2_with fail
          refine hK8.out _ _ hq ?_
          clear hq hc hf HM
          generalize x4.setCell ⟨c1, 0, none⟩ (.int .i64 v) = x8 at *
          refine tri_act rfl (fun K9 hK9 => ?_)
          have hc := HMa.out.c2
          have hf := HMa.out.f2
          have HMb := Lib.hid (HMa.out.st2 redo)
          have hq := HMb.out.q
          go_wp2_with fail
          refine hK9.out _ _ hq ?_
          refine tri_end ?_
          clear hq hc hf HMa
          generalize x8.setCell ⟨c2, 0, none⟩ (.bool redo) = x9 at *
          go_wp2_with fail
          go_meet
          case rel => exact ⟨c1, c2, rfl, rfl, HMb⟩
        · refine tri_act rfl (fun K6 hK6 => ?_)
          have HMa := Lib.hid (HM.out.al1)
          clear HM
          have HM := HMa
          clear HMa
          have hq := HM.out.q
          go_wp2_with fail
          refine hK6.out _ _ hq ?_
          clear hq
          generalize x2.alloc (.cells #[.int .i64 0] 3) = x3 at *
          generalize x2.heap.size = c1 at *
          refine tri_act rfl (fun K5 hK5 => ?_)
          go_wp2_with fail
          refine (HN2.out _ HM.out.rd).mono ?_
          rintro e x4 ⟨rfl, hR, hU⟩
          have HMa := Lib.hid (HM.out.read hR hU)
          clear hR hU HM
          have HM := HMa
          clear HMa
          have hq := HM.out.q
          go_wp2_with fail
          refine hK5.out _ _ hq ?_
          clear hq
          refine tri_act rfl (fun K8 hK8 => ?_)
          have hc := HM.out.c1
          have hf := HM.out.f1
          have HMa := Lib.hid (HM.out.st1 v)
          have hq := HMa.out.q
          go_wp2_with fail
          refine hK8.out _ _ hq ?_
          clear hq hc hf HM
          generalize x4.setCell ⟨c1, 0, none⟩ (.int .i64 v) = x8 at *
          refine tri_act rfl (fun K9 hK9 => ?_)
          have hc := HMa.out.c2
          have hf := HMa.out.f2
          have HMb := Lib.hid (HMa.out.st2 redo)
          have hq := HMb.out.q
          go_wp2_with fail
          refine hK9.out _ _ hq ?_
          refine tri_end ?_
          clear hq hc hf HMa
          generalize x8.setCell ⟨c2, 0, none⟩ (.bool redo) = x9 at *
          go_wp2_with fail
          go_meet
          case rel => exact ⟨c1, c2, rfl, rfl, HMb⟩
    · refine tri_act rfl (fun K6 hK6 => ?_)
      have HMa := Lib.hid (HM.out.al1)
      clear HM
      have HM := HMa
      clear HMa
      have hq := HM.out.q
      go_wp2_with fail
      refine hK6.out _ _ hq ?_
      clear hq
      generalize x0.alloc (.cells #[.int .i64 0] 3) = x1 at *
      generalize x0.heap.size = c1 at *
      refine tri_both ?_ ?_
      · refine tri_act rfl (fun K2 hK2 => ?_)
        go_wp2_with fail
        refine (HN1.out _ HM.out.rd).mono ?_
        rintro e x2 ⟨rfl, hR, hU⟩
        have HMa := Lib.hid (HM.out.read hR hU)
        clear hR hU HM
        have HM := HMa
        clear HMa
        have hq := HM.out.q
        go_wp2_with fail
        refine hK2.out _ _ hq ?_
        clear hq
        refine tri_both ?_ ?_
        · refine tri_act rfl (fun K5 hK5 => ?_)
          go_wp2_with fail
          refine (HN2.out _ HM.out.rd).mono ?_
          rintro e x3 ⟨rfl, hR, hU⟩
          have HMa := Lib.hid (HM.out.read hR hU)
          clear hR hU HM
          have HM := HMa
          clear HMa
          have hq := HM.out.q
          go_wp2_with fail
          refine hK5.out _ _ hq ?_
          clear hq
          refine tri_act rfl (fun K7 hK7 => ?_)
          have HMa := Lib.hid (HM.out.al2)
          clear HM
          have HM := HMa
          clear HMa
          have hq := HM.out.q
          go_wp2_with fail
          refine hK7.out _ _ hq ?_
          clear hq
          generalize x3.alloc (.cells #[.bool false] 4) = x4 at *
          generalize x3.heap.size = c2 at *
          refine tri_act rfl (fun K8 hK8 => ?_)
          have hc := HM.out.c1
          have hf := HM.out.f1
          have HMa := Lib.hid (HM.out.st1 v)
          have hq := HMa.out.q
          go_wp2_with fail
          refine hK8.out _ _ hq ?_
          clear hq hc hf HM
          generalize x4.setCell ⟨c1, 0, none⟩ (.int .i64 v) = x8 at *
          refine tri_act rfl (fun K9 hK9 => ?_)
          have hc := HMa.out.c2
          have hf := HMa.out.f2
          have HMb := Lib.hid (HMa.out.st2 redo)
          have hq := HMb.out.q
          go_wp2_with fail
          refine hK9.out _ _ hq ?_
          refine tri_end ?_
          clear hq hc hf HMa
          generalize x8.setCell ⟨c2, 0, none⟩ (.bool redo) = x9 at *
          go_wp2_with fail
          go_meet
          case rel => exact ⟨c1, c2, rfl, rfl, HMb⟩
        · refine tri_act rfl (fun K7 hK7 => ?_)
          have HMa := Lib.hid (HM.out.al2)
          clear HM
          have HM := HMa
          clear HMa
          have hq := HM.out.q
          go_wp2_with fail
          refine hK7.out _ _ hq ?_
          clear hq
          generalize x2.alloc (.cells #[.bool false] 4) = x3 at *
          generalize x2.heap.size = c2 at *
          refine tri_act rfl (fun K5 hK5 => ?_)
          go_wp2_with fail
          refine (HN2.out _ HM.out.rd).mono ?_
          rintro e x4 ⟨rfl, hR, hU⟩
          have HMa := Lib.hid (HM.out.read hR hU)
          clear hR hU HM
          have HM := HMa
          clear HMa
          have hq := HM.out.q
          go_wp2_with fail
          refine hK5.out _ _ hq ?_
          clear hq
          refine tri_act rfl (fun K8 hK8 => ?_)
          have hc := HM.out.c1
          have hf := HM.out.f1
          have HMa := Lib.hid (HM.out.st1 v)
          have hq := HMa.out.q
          go_wp2_with fail
          refine hK8.out _ _ hq ?_
          clear hq hc hf HM
          generalize x4.setCell ⟨c1, 0, none⟩ (.int .i64 v) = x8 at *
          refine tri_act rfl (fun K9 hK9 => ?_)
          have hc := HMa.out.c2
          have hf := HMa.out.f2
          have HMb := Lib.hid (HMa.out.st2 redo)
          have hq := HMb.out.q
          go_wp2_with fail
          refine hK9.out _ _ hq ?_
          refine tri_end ?_
          clear hq hc hf HMa
          generalize x8.setCell ⟨c2, 0, none⟩ (.bool redo) = x9 at *
          go_wp2_with fail
          go_meet
          case rel => exact ⟨c1, c2, rfl, rfl, HMb⟩
      · refine tri_act rfl (fun K7 hK7 => ?_)
        have HMa := Lib.hid (HM.out.al2)
        clear HM
        have HM := HMa
        clear HMa
        have hq := HM.out.q
        go_wp2_with fail
        refine hK7.out _ _ hq ?_
        clear hq
        generalize x1.alloc (.cells #[.bool false] 4) = x2 at *
        generalize x1.heap.size = c2 at *
        refine tri_act rfl (fun K2 hK2 => ?_)
        go_wp2_with fail
        refine (HN1.out _ HM.out.rd).mono ?_
        rintro e x3 ⟨rfl, hR, hU⟩
        have HMa := Lib.hid (HM.out.read hR hU)
        clear hR hU HM
        have HM := HMa
        clear HMa
        have hq := HM.out.q
        go_wp2_with fail
        refine hK2.out _ _ hq ?_
        clear hq
        refine tri_act rfl (fun K5 hK5 => ?_)
        go_wp2_with fail
        refine (HN2.out _ HM.out.rd).mono ?_
        rintro e x4 ⟨rfl, hR, hU⟩
        have HMa := Lib.hid (HM.out.read hR hU)
        clear hR hU HM
        have HM := HMa
        clear HMa
        have hq := HM.out.q
        go_wp2_with fail
        refine hK5.out _ _ hq ?_
        clear hq
        refine tri_act rfl (fun K8 hK8 => ?_)
        have hc := HM.out.c1
        have hf := HM.out.f1
        have HMa := Lib.hid (HM.out.st1 v)
        have hq := HMa.out.q
        go_wp2_with fail
        refine hK8.out _ _ hq ?_
        clear hq hc hf HM
        generalize x4.setCell ⟨c1, 0, none⟩ (.int .i64 v) = x8 at *
        refine tri_act rfl (fun K9 hK9 => ?_)
        have hc := HMa.out.c2
        have hf := HMa.out.f2
        have HMb := Lib.hid (HMa.out.st2 redo)
        have hq := HMb.out.q
        go_wp2_with fail
        refine hK9.out _ _ hq ?_
        refine tri_end ?_
        clear hq hc hf HMa
        generalize x8.setCell ⟨c2, 0, none⟩ (.bool redo) = x9 at *
        go_wp2_with fail
        go_meet
        case rel => exact ⟨c1, c2, rfl, rfl, HMb⟩
    · refine tri_act rfl (fun K7 hK7 => ?_)
      have HMa := Lib.hid (HM.out.al2)
      clear HM
      have HM := HMa
      clear HMa
      have hq := HM.out.q
      go_wp2_with fail
      refine hK7.out _ _ hq ?_
      clear hq
      generalize x0.alloc (.cells #[.bool false] 4) = x1 at *
      generalize x0.heap.size = c2 at *
      refine tri_both ?_ ?_
      · refine tri_act rfl (fun K2 hK2 => ?_)
        go_wp2_with fail
        refine (HN1.out _ HM.out.rd).mono ?_
        rintro e x2 ⟨rfl, hR, hU⟩
        have HMa := Lib.hid (HM.out.read hR hU)
        clear hR hU HM
        have HM := HMa
        clear HMa
        have hq := HM.out.q
        go_wp2_with fail
        refine hK2.out _ _ hq ?_
        clear hq
        refine tri_both ?_ ?_
        · refine tri_act rfl (fun K5 hK5 => ?_)
          go_wp2_with fail
          refine (HN2.out _ HM.out.rd).mono ?_
          rintro e x3 ⟨rfl, hR, hU⟩
          have HMa := Lib.hid (HM.out.read hR hU)
          clear hR hU HM
          have HM := HMa
          clear HMa
          have hq := HM.out.q
          go_wp2_with fail
          refine hK5.out _ _ hq ?_
          clear hq
          refine tri_act rfl (fun K6 hK6 => ?_)
          have HMa := Lib.hid (HM.out.al1)
          clear HM
          have HM := HMa
          clear HMa
          have hq := HM.out.q
          go_wp2_with fail
          refine hK6.out _ _ hq ?_
          clear hq
          generalize x3.alloc (.cells #[.int .i64 0] 3) = x4 at *
          generalize x3.heap.size = c1 at *
          refine tri_act rfl (fun K8 hK8 => ?_)
          have hc := HM.out.c1
          have hf := HM.out.f1
          have HMa := Lib.hid (HM.out.st1 v)
          have hq := HMa.out.q
          go_wp2_with fail
          refine hK8.out _ _ hq ?_
          clear hq hc hf HM
          generalize x4.setCell ⟨c1, 0, none⟩ (.int .i64 v) = x8 at *
          refine tri_act rfl (fun K9 hK9 => ?_)
          have hc := HMa.out.c2
          have hf := HMa.out.f2
          have HMb := Lib.hid (HMa.out.st2 redo)
          have hq := HMb.out.q
          go_wp2_with fail
          refine hK9.out _ _ hq ?_
          refine tri_end ?_
          clear hq hc hf HMa
          generalize x8.setCell ⟨c2, 0, none⟩ (.bool redo) = x9 at *
          go_wp2_with fail
          go_meet
          case rel => exact ⟨c1, c2, rfl, rfl, HMb⟩
        · refine tri_act rfl (fun K6 hK6 => ?_)
          have HMa := Lib.hid (HM.out.al1)
          clear HM
          have HM := HMa
          clear HMa
          have hq := HM.out.q
          go_wp2_with fail
          refine hK6.out _ _ hq ?_
          clear hq
          generalize x2.alloc (.cells #[.int .i64 0] 3) = x3 at *
          generalize x2.heap.size = c1 at *
          refine tri_act rfl (fun K5 hK5 => ?_)
          go_wp2_with fail
          refine (HN2.out _ HM.out.rd).mono ?_
          rintro e x4 ⟨rfl, hR, hU⟩
          have HMa := Lib.hid (HM.out.read hR hU)
          clear hR hU HM
          have HM := HMa
          clear HMa
          have hq := HM.out.q
          go_wp2_with fail
          refine hK5.out _ _ hq ?_
          clear hq
          refine tri_act rfl (fun K8 hK8 => ?_)
          have hc := HM.out.c1
          have hf := HM.out.f1
          have HMa := Lib.hid (HM.out.st1 v)
          have hq := HMa.out.q
          go_wp2_with fail
          refine hK8.out _ _ hq ?_
          clear hq hc hf HM
          generalize x4.setCell ⟨c1, 0, none⟩ (.int .i64 v) = x8 at *
          refine tri_act rfl (fun K9 hK9 => ?_)
          have hc := HMa.out.c2
          have hf := HMa.out.f2
          have HMb := Lib.hid (HMa.out.st2 redo)
          have hq := HMb.out.q
          go_wp2_with fail
          refine hK9.out _ _ hq ?_
          refine tri_end ?_
          clear hq hc hf HMa
          generalize x8.setCell ⟨c2, 0, none⟩ (.bool redo) = x9 at *
          go_wp2_with fail
          go_meet
          case rel => exact ⟨c1, c2, rfl, rfl, HMb⟩
      · refine tri_act rfl (fun K6 hK6 => ?_)
        have HMa := Lib.hid (HM.out.al1)
        clear HM
        have HM := HMa
        clear HMa
        have hq := HM.out.q
        go_wp2_with fail
        refine hK6.out _ _ hq ?_
        clear hq
        generalize x1.alloc (.cells #[.int .i64 0] 3) = x2 at *
        generalize x1.heap.size = c1 at *
        refine tri_act rfl (fun K2 hK2 => ?_)
        go_wp2_with fail
        refine (HN1.out _ HM.out.rd).mono ?_
        rintro e x3 ⟨rfl, hR, hU⟩
        have HMa := Lib.hid (HM.out.read hR hU)
        clear hR hU HM
        have HM := HMa
        clear HMa
        have hq := HM.out.q
        go_wp2_with fail
        refine hK2.out _ _ hq ?_
        clear hq
        refine tri_act rfl (fun K5 hK5 => ?_)
        go_wp2_with fail
        refine (HN2.out _ HM.out.rd).mono ?_
        rintro e x4 ⟨rfl, hR, hU⟩
        have HMa := Lib.hid (HM.out.read hR hU)
        clear hR hU HM
        have HM := HMa
        clear HMa
        have hq := HM.out.q
        go_wp2_with fail
        refine hK5.out _ _ hq ?_
        clear hq
        refine tri_act rfl (fun K8 hK8 => ?_)
        have hc := HM.out.c1
        have hf := HM.out.f1
        have HMa := Lib.hid (HM.out.st1 v)
        have hq := HMa.out.q
        go_wp2_with fail
        refine hK8.out _ _ hq ?_
        clear hq hc hf HM
        generalize x4.setCell ⟨c1, 0, none⟩ (.int .i64 v) = x8 at *
        refine tri_act rfl (fun K9 hK9 => ?_)
        have hc := HMa.out.c2
        have hf := HMa.out.f2
        have HMb := Lib.hid (HMa.out.st2 redo)
        have hq := HMb.out.q
        go_wp2_with fail
        refine hK9.out _ _ hq ?_
        refine tri_end ?_
        clear hq hc hf HMa
        generalize x8.setCell ⟨c2, 0, none⟩ (.bool redo) = x9 at *
        go_wp2_with fail
        go_meet
        case rel => exact ⟨c1, c2, rfl, rfl, HMb⟩
  case rest =>
    obtain ⟨c1, c2, rfl, rfl, HM⟩ := hcut
    have q1 := HM.out.c1
    have q2 := HM.out.c2
    go_wp2_with fail
    refine (HPM.out _).mono ?_
    rintro e w6 ⟨a3, c3, rfl, hv3, hf3, hU6⟩
    have hva := HI0.out.upd (HM.out.upd.trans hU6) (fun _ _ h => h)
    have hse := slEqB_any a3 a c3 c ML l w6 hv3 hva
    rw [← HOK.out] at hse
    have HY := Lib.hid (HM.out.same hU6)
    clear hv3 hf3 hU6 hva q1 q2 HM HM1
    go_wp2_with fail
    refine hse.mono ?_
    rintro e w7 ⟨rfl, hU7⟩
    have HZ := Lib.hid (HY.out.same hU7)
    clear hse hU7 HY
    cases OO with
    | false =>
      go_wp2_with fail
      try go_ret2
      exact HG0.out (by first | rfl | trivial) _ _ ⟨rfl, HZ.out.upd⟩
    | true =>
      go_wp2_with fail
      try go_ret2
      exact HG1.out (by first | rfl | trivial) _ _ ⟨L2, c1, c2, rfl, HZ.out.l2, (HZ.out.b1 c1 rfl).1, (HZ.out.b2 c2 rfl).1, HZ.out.upd⟩

set_option maxHeartbeats 16000000 in
theorem read_dropX (lb : Nat) (a : Option Addr) (c : Nat) (l : List UInt8) (w : World) (hv : Vw w a l.length c 1 (bvs l)) (hl : l.length ≤ 70000000) (hk : kindL l = 4) :
    Calls Tryz.prog 57 #[.pointer (some ⟨lb, 0, none⟩), .slice a l.length c] w (ReadDp w lb l) := by
  have HOK : Hid (okDrop l = (([4] : List UInt8) == l)) := Lib.hid rfl
  have HG1 : Hid (okDrop l = true → ∀ e w', DoDrop w lb e w' → ReadDp w lb l e w') := Lib.hid (fun h e w' hd => by unfold ReadDp; rw [if_pos h]; exact hd)
  have HG0 : Hid (okDrop l = false → ∀ e w', ReadNo w e w' → ReadDp w lb l e w') := Lib.hid (fun h e w' hd => by unfold ReadDp; rw [h, if_neg (by decide)]; exact hd)
  generalize ReadDp w lb l = GG at *
  generalize okDrop l = OO at *
  have hU0 := Upd.alloc (fun _ => False) w (.cells #[.pointer (some ⟨lb, 0, none⟩)] 42)
  have hb0 := heap_alloc_new w (.cells #[.pointer (some ⟨lb, 0, none⟩)] 42)
  have HI0 := Lib.hid hv
  have HI := Lib.hid (And.intro (hv.upd hU0 (fun _ _ h => h)) (And.intro hb0 hU0))
  have hkk : takeS (heldN 1) ⟨l, 0⟩ = ((takeS 1 ⟨l, 0⟩).1, s1L l) := rfl
  have hkl : leN (takeS 1 ⟨l, 0⟩).1 = 4 := hk
  have hs1 : (s1L l).l.length ≤ l.length := takeS_len 1 ⟨l, 0⟩
  have HK := Lib.hid (And.intro hkk (And.intro hkl hs1))
  clear hv hU0 hb0 hkk hkl hs1 hk
  go_enter Tryz.func57, Tryz.ntmps57
  go_upto_region 1 with (fail)
  generalize w.alloc (.cells #[.pointer (some ⟨lb, 0, none⟩)] 42) = y0 at *
  obtain ⟨L2, hL2⟩ : ∃ B, w.heap.size = B := ⟨_, rfl⟩
  rw [hL2] at HI ⊢
  have HB := Lib.hid hL2
  clear hL2
  go_wp2_with fail
  refine (read_any3 a c l y0 HI.out.1 (by omega)).mono ?_
  rintro e w1 ⟨br, F, rfl, hR, hU, hbr, hF⟩
  obtain ⟨BR, hBR⟩ : ∃ B, w1.heap.size = B := ⟨_, rfl⟩
  have hbrl : br < BR := by
    obtain ⟨a9, c9, hh, _⟩ := hR.ex
    rw [← hBR]
    exact lt_of_heap hh
  have hz0 := hU.size
  have hUn := Upd.alloc (fun _ => False) w1 (.cells #[.pointer (some ⟨br, 0, none⟩)] 139)
  have hrow := heap_alloc_new w1 (.cells #[.pointer (some ⟨br, 0, none⟩)] 139)
  have hL2 := ((hU.trans hUn).block L2 (lt_of_heap HI.out.2.1) (fun h => h)).trans HI.out.2.1
  have hltL := lt_of_heap HI.out.2.1
  have hUw := HI.out.2.2.trans (hU.trans hUn)
  rw [hBR] at hrow
  have HJ := Lib.hid (And.intro (hR.upd hUn (fun h => h) (fun _ _ h => h)) (And.intro hrow (And.intro hL2 hUw)))
  have hnum := rnum_any br F ⟨l, 0⟩ 1 _ HJ.out.1 (by show l.length ≤ _; omega)
  rw [HK.out.1] at hnum
  unfold ReadN at hnum
  dsimp only at hnum
  rw [HK.out.2.1] at hnum
  have hF2 : ∀ g, F = some g → g < BR := fun g hg => by have := (hF g hg).2; omega
  have hbrL : L2 < br := by omega
  have HN := Lib.hid (And.intro hbrl (And.intro hF2 (And.intro hbrL (fun g (hg : F = some g) => show L2 < g from by have := (hF g hg).1; omega))))
  have HS1 : Hid ((s1L l).l.length ≤ 100000000) := Lib.hid (by have := HK.out.2.2; omega)
  clear hR hU hbr hF hbrl hz0 hUn hrow hL2 hltL hUw hF2 hbrL HI HK
  generalize s1L l = s1 at *
  go_upto_region 5 with (fail)
  generalize w1.alloc (.cells #[.pointer (some ⟨br, 0, none⟩)] 139) = w2 at *
  clear hBR
  have q : w2.cell? ⟨BR, 0, none⟩ = some (.pointer (some ⟨br, 0, none⟩)) := by rw [cell_of_row _ _ _ _ _ _ HJ.out.2.1]; rfl
  go_wp2_with fail
  refine hnum.mono ?_
  rintro e w3 ⟨rfl, hR, hU⟩
  have hn1 := HN.out.1
  have hn2 := HN.out.2.2.1
  have hrow := (hU.block BR (lt_of_heap HJ.out.2.1) (by omega)).trans HJ.out.2.1
  have hL2 := (hU.block L2 (lt_of_heap HJ.out.2.2.1) (by omega)).trans HJ.out.2.2.1
  have hBz := lt_of_heap hrow
  have HB' := HB.out
  have hUw : Upd (fun _ => False) w w3 := HJ.out.2.2.2.next hU (fun i hi e => by omega)
  have HR := Lib.hid (And.intro hR (And.intro hrow (And.intro hL2 (And.intro hUw hBz))))
  clear q hnum
  have q : w3.cell? ⟨BR, 0, none⟩ = some (.pointer (some ⟨br, 0, none⟩)) := by rw [cell_of_row _ _ _ _ _ _ hrow]; rfl
  clear hR hU hrow hL2 hUw hBz HB' hn1 hn2 HJ
  have HPM := Lib.hid (fun w' => mPackDrop_anyP w')
  go_wp2_with fail
  refine (HPM.out _).mono ?_
  rintro e w6 ⟨a3, c3, rfl, hv3, hf3, hU6⟩
  have hse := slEqB_any a3 a c3 c ([4] : List UInt8) l w6 hv3 (HI0.out.upd (HR.out.2.2.2.1.trans hU6) (fun _ _ h => h))
  rw [← HOK.out] at hse
  have HY := Lib.hid (And.intro ((hU6.block L2 (lt_of_heap HR.out.2.2.1) (fun h => h)).trans HR.out.2.2.1) (HR.out.2.2.2.1.trans hU6))
  clear hv3 hf3 hU6 q HR HN HB
  go_wp2_with fail
  refine hse.mono ?_
  rintro e w7 ⟨rfl, hU7⟩
  have HZ := Lib.hid (And.intro ((hU7.block L2 (lt_of_heap HY.out.1) (fun h => h)).trans HY.out.1) (HY.out.2.trans hU7))
  clear hse hU7 HY
  cases OO with
  | false =>
    go_wp2_with fail
    try go_ret2
    exact HG0.out (by first | rfl | trivial) _ _ ⟨rfl, HZ.out.2⟩
  | true =>
    go_wp2_with fail
    try go_ret2
    exact HG1.out (by first | rfl | trivial) _ _ ⟨L2, rfl, HZ.out.1, HZ.out.2⟩

set_option maxHeartbeats 16000000 in
theorem read_noneX (lb : Nat) (a : Option Addr) (c : Nat) (l : List UInt8) (w : World) (hv : Vw w a l.length c 1 (bvs l)) (hl : l.length ≤ 70000000) (hk : kindL l ≠ 1 ∧ kindL l ≠ 2 ∧ kindL l ≠ 3 ∧ kindL l ≠ 4) :
    Calls Tryz.prog 57 #[.pointer (some ⟨lb, 0, none⟩), .slice a l.length c] w (ReadNo w) := by
  generalize hGG : ReadNo w = GG
  have HG0 : Hid (∀ e w', ReadNo w e w' → GG e w') := Lib.hid (fun e w' h => hGG ▸ h)
  clear hGG
  have hU0 := Upd.alloc (fun _ => False) w (.cells #[.pointer (some ⟨lb, 0, none⟩)] 42)
  have hb0 := heap_alloc_new w (.cells #[.pointer (some ⟨lb, 0, none⟩)] 42)
  have HI0 := Lib.hid hv
  have HI := Lib.hid (And.intro (hv.upd hU0 (fun _ _ h => h)) (And.intro hb0 hU0))
  have hkk : takeS (heldN 1) ⟨l, 0⟩ = ((takeS 1 ⟨l, 0⟩).1, s1L l) := rfl
  have hkl : leN (takeS 1 ⟨l, 0⟩).1 = kindL l := rfl
  have HKN := Lib.hid hk
  have hs1 : (s1L l).l.length ≤ l.length := takeS_len 1 ⟨l, 0⟩
  have HK := Lib.hid (And.intro hkk (And.intro hkl hs1))
  clear hv hU0 hb0 hkk hkl hs1 hk
  go_enter Tryz.func57, Tryz.ntmps57
  go_upto_region 1 with (fail)
  generalize w.alloc (.cells #[.pointer (some ⟨lb, 0, none⟩)] 42) = y0 at *
  obtain ⟨L2, hL2⟩ : ∃ B, w.heap.size = B := ⟨_, rfl⟩
  rw [hL2] at HI ⊢
  have HB := Lib.hid hL2
  clear hL2
  go_wp2_with fail
  refine (read_any3 a c l y0 HI.out.1 (by omega)).mono ?_
  rintro e w1 ⟨br, F, rfl, hR, hU, hbr, hF⟩
  obtain ⟨BR, hBR⟩ : ∃ B, w1.heap.size = B := ⟨_, rfl⟩
  have hbrl : br < BR := by
    obtain ⟨a9, c9, hh, _⟩ := hR.ex
    rw [← hBR]
    exact lt_of_heap hh
  have hz0 := hU.size
  have hUn := Upd.alloc (fun _ => False) w1 (.cells #[.pointer (some ⟨br, 0, none⟩)] 139)
  have hrow := heap_alloc_new w1 (.cells #[.pointer (some ⟨br, 0, none⟩)] 139)
  have hL2 := ((hU.trans hUn).block L2 (lt_of_heap HI.out.2.1) (fun h => h)).trans HI.out.2.1
  have hltL := lt_of_heap HI.out.2.1
  have hUw := HI.out.2.2.trans (hU.trans hUn)
  rw [hBR] at hrow
  have HJ := Lib.hid (And.intro (hR.upd hUn (fun h => h) (fun _ _ h => h)) (And.intro hrow (And.intro hL2 hUw)))
  have hnum := rnum_any br F ⟨l, 0⟩ 1 _ HJ.out.1 (by show l.length ≤ _; omega)
  rw [HK.out.1] at hnum
  unfold ReadN at hnum
  dsimp only at hnum
  rw [HK.out.2.1] at hnum
  have hF2 : ∀ g, F = some g → g < BR := fun g hg => by have := (hF g hg).2; omega
  have hbrL : L2 < br := by omega
  have HN := Lib.hid (And.intro hbrl (And.intro hF2 (And.intro hbrL (fun g (hg : F = some g) => show L2 < g from by have := (hF g hg).1; omega))))
  have HS1 : Hid ((s1L l).l.length ≤ 100000000) := Lib.hid (by have := HK.out.2.2; omega)
  clear hR hU hbr hF hbrl hz0 hUn hrow hL2 hltL hUw hF2 hbrL HI HK
  generalize s1L l = s1 at *
  go_upto_region 5 with (fail)
  generalize w1.alloc (.cells #[.pointer (some ⟨br, 0, none⟩)] 139) = w2 at *
  clear hBR
  have q : w2.cell? ⟨BR, 0, none⟩ = some (.pointer (some ⟨br, 0, none⟩)) := by rw [cell_of_row _ _ _ _ _ _ HJ.out.2.1]; rfl
  go_wp2_with fail
  refine hnum.mono ?_
  rintro e w3 ⟨rfl, hR, hU⟩
  have hn1 := HN.out.1
  have hn2 := HN.out.2.2.1
  have hrow := (hU.block BR (lt_of_heap HJ.out.2.1) (by omega)).trans HJ.out.2.1
  have hL2 := (hU.block L2 (lt_of_heap HJ.out.2.2.1) (by omega)).trans HJ.out.2.2.1
  have hBz := lt_of_heap hrow
  have HB' := HB.out
  have hUw : Upd (fun _ => False) w w3 := HJ.out.2.2.2.next hU (fun i hi e => by omega)
  have HR := Lib.hid (And.intro hR (And.intro hrow (And.intro hL2 (And.intro hUw hBz))))
  clear q hnum
  have q : w3.cell? ⟨BR, 0, none⟩ = some (.pointer (some ⟨br, 0, none⟩)) := by rw [cell_of_row _ _ _ _ _ _ hrow]; rfl
  clear hR hU hrow hL2 hUw hBz HB' hn1 hn2 HJ
  generalize kindL l = kk at *
  have hk1 : ((kk : Int) == 1) = false := beq_false_of_ne (by have := HKN.out.1; omega)
  have hk2 : ((kk : Int) == 2) = false := beq_false_of_ne (by have := HKN.out.2.1; omega)
  have hk3 : ((kk : Int) == 3) = false := beq_false_of_ne (by have := HKN.out.2.2.1; omega)
  have hk4 : ((kk : Int) == 4) = false := beq_false_of_ne (by have := HKN.out.2.2.2; omega)
  go_wp2_with fail
  try go_ret2
  exact HG0.out _ _ ⟨rfl, HR.out.2.2.2.1⟩
end Go.Proofs.YtccejkikphpnfaaGreatDoor

namespace Go.Proofs.YtccejkikphpnfaaGreatDoor
set_option linter.unusedSimpArgs false
set_option linter.unusedVariables false
set_option maxRecDepth 100000
open Go.ChangeShapes Go.WideShapes Go.ChangeAt Go.RowKit

theorem infoPend5 : (Tryz.prog.info? 30).map (·.size) = some 7 := by kernel_rfl
/-- One more record. -/
def Lx.cnt (g : Lx) : Lx := ⟨g.rr, g.fs, g.cs, g.top, g.ds, g.pd, g.n + 1⟩
theorem LogX.cnt {w : World} {lb : Nat} {g : Lx} {A : LA} (h : LogX w lb g A) : LogX (w.setCell ⟨lb, 12, none⟩ (.int .i64 (g.n + 1))) lb g.cnt A ∧ Upd (fun q => q = lb) w (w.setCell ⟨lb, 12, none⟩ (.int .i64 (g.n + 1))) :=
  h.put (g' := g.cnt) (A' := A) (Upd.refl _ _) 12 (.int .i64 (g.n + 1)) (by simp [logX, Lx.cnt]) h.rr h.fs h.cs h.ds h.n1 h.n2 h.n3 h.n4 (fun x hx => .inl hx) rfl
def Done (w : World) (lb : Nat) (E : Int) (G : Lx) (e : Ending) (w' : World) : Prop := e = .returned (.int .i64 E) ∧ ∃ A', LogX w' lb G A' ∧ Upd (fun q => q = lb) w w'
theorem read1X (g : Lx) (A : LA) (lb L2 BX : Nat) (r : Rt) (w : World) (h : LogX w lb g A) (hg : LxB g) (hr : RtIn w r) (hb : RtBl (Bd w lb) r) (hks : r.ks.length ≤ 100000)
    (hL : w.heap[L2]? = some (.cells #[.pointer (some ⟨lb, 0, none⟩)] 42)) (hX : w.heap[BX]? = some (.cells (rtA r) 26)) :
    Calls Tryz.prog 96 #[.pointer (some ⟨L2, 0, none⟩), .pointer (some ⟨BX, 0, none⟩)] w (Done w lb (addE g r) (addG g r)) := by
  have hm := addRoot_gen g A lb r w h hg hr hb hks
  have q : w.cell? ⟨L2, 0, none⟩ = some (.pointer (some ⟨lb, 0, none⟩)) := by rw [cell_of_row _ _ _ _ _ _ hL]; rfl
  have hs : (Tryz.prog.info? 26).map (·.size) = some (rtA r).size := by rw [infoRoot]; rfl
  have HS := Lib.hid hs
  clear hL hs h hr hb hks hg
  generalize rtA r = RA at *
  generalize addE g r = EE at *
  generalize addG g r = GE at *
  go_enter Tryz.func96, Tryz.ntmps96
  go_wp2_with (refine wpList_load_row rfl 26 (.tmp 1) rfl BX RA 26 (0, 0) _ rfl hX Tryz.underlying26 rfl HS.out ?_)
  refine hm.mono ?_
  rintro e w1 ⟨rfl, hR⟩
  have HR := Lib.hid hR
  clear hm q hX hR
  go_wp2_with fail
  go_ret
  exact ⟨rfl, HR.out⟩
theorem read2X (g : Lx) (A : LA) (lb L2 c1 c2 : Nat) (v : Int) (redo : Bool) (w : World) (h : LogX w lb g A) (ht0 : 0 ≤ g.top) (ht1 : g.top ≤ 2000) (htr : g.top ≤ g.rr.length) (hv0 : -1 ≤ v) (hv1 : v < 4294967296) (hd : g.ds.length ≤ 100000)
    (hL : w.heap[L2]? = some (.cells #[.pointer (some ⟨lb, 0, none⟩)] 42)) (h1 : w.heap[c1]? = some (.cells #[.int .i64 v] 3)) (h2 : w.heap[c2]? = some (.cells #[.bool redo] 4)) :
    Calls Tryz.prog 100 #[.pointer (some ⟨L2, 0, none⟩), .pointer (some ⟨c1, 0, none⟩), .pointer (some ⟨c2, 0, none⟩)] w (Done w lb (moveE g v redo) (moveG g v redo)) := by
  have hm := move_gen g A lb v redo w h ht0 ht1 htr hv0 hv1 hd
  have q : w.cell? ⟨L2, 0, none⟩ = some (.pointer (some ⟨lb, 0, none⟩)) := by rw [cell_of_row _ _ _ _ _ _ hL]; rfl
  have q1 : w.cell? ⟨c1, 0, none⟩ = some (.int .i64 v) := by rw [cell_of_row _ _ _ _ _ _ h1]; rfl
  have q2 : w.cell? ⟨c2, 0, none⟩ = some (.bool redo) := by rw [cell_of_row _ _ _ _ _ _ h2]; rfl
  unfold Moved at hm
  clear hL h1 h2 h ht0 ht1 htr hv0 hv1 hd
  generalize moveE g v redo = EE at *
  generalize moveG g v redo = GE at *
  go_enter Tryz.func100, Tryz.ntmps100
  go_wp2_with fail
  refine hm.mono ?_
  rintro e w1 ⟨rfl, hR⟩
  have HR := Lib.hid hR
  clear hm q q1 q2 hR
  go_wp2_with fail
  go_ret
  exact ⟨rfl, HR.out⟩
theorem read3X (g : Lx) (A : LA) (lb L2 BX : Nat) (p : Wt) (w : World) (h : LogX w lb g A) (hp : WtIn w p) (hb : WtBl (Bd w lb) p)
    (hL : w.heap[L2]? = some (.cells #[.pointer (some ⟨lb, 0, none⟩)] 42)) (hX : w.heap[BX]? = some (.cells (wtA p) 30)) :
    Calls Tryz.prog 103 #[.pointer (some ⟨BX, 0, none⟩), .pointer (some ⟨L2, 0, none⟩)] w (Done w lb 0 (g.pend p)) := by
  have hm := h.pend p hp hb
  have q : w.cell? ⟨L2, 0, none⟩ = some (.pointer (some ⟨lb, 0, none⟩)) := by rw [cell_of_row _ _ _ _ _ _ hL]; rfl
  have hs : (Tryz.prog.info? 30).map (·.size) = some (wtA p).size := by rw [infoPend5]; rfl
  have h7 : (wtA p).size = 7 := rfl
  have HS := Lib.hid (And.intro hs (And.intro h7 (And.intro (wtA_one p) (And.intro h.there hm))))
  clear hL hs h hp hb h7 hm
  generalize wtA p = RA at *
  go_enter Tryz.func103, Tryz.ntmps103
  go_wp2_with first
    | refine wpList_load_row rfl 30 (.tmp 0) rfl BX RA 30 (0, 0) _ rfl hX Tryz.underlying30 rfl HS.out.1 ?_
    | refine wpList_store_mid rfl 30 (.tmp 6) (.tmp 4) rfl lb 5 RA rfl rfl (by rw [HS.out.2.1]; exact HS.out.2.2.2.1) (by rw [infoPend5, HS.out.2.1]) HS.out.2.2.1 ?_
  go_ret
  exact ⟨rfl, A, HS.out.2.2.2.2⟩
def dropE (g : Lx) : Int := if g.pd.on = true then 0 else 5
def dropG (g : Lx) : Lx := if g.pd.on = true then g.pend wt0 else g
theorem read4X (g : Lx) (A : LA) (lb L2 : Nat) (w : World) (h : LogX w lb g A) (hL : w.heap[L2]? = some (.cells #[.pointer (some ⟨lb, 0, none⟩)] 42)) :
    Calls Tryz.prog 104 #[.pointer (some ⟨L2, 0, none⟩)] w (Done w lb (dropE g) (dropG g)) := by
  have q : w.cell? ⟨L2, 0, none⟩ = some (.pointer (some ⟨lb, 0, none⟩)) := by rw [cell_of_row _ _ _ _ _ _ hL]; rfl
  have q5 := h.c5
  have hm := h.pend wt0 (wt0_in _) (wt0_bl _)
  rw [← pendA_wt0] at hm
  have HS := Lib.hid (And.intro h (And.intro h.there hm))
  have HE : Hid (dropE g = if g.pd.on = true then 0 else 5) := Lib.hid rfl
  have HG : Hid (dropG g = if g.pd.on = true then g.pend wt0 else g) := Lib.hid rfl
  generalize dropE g = EE at *
  generalize dropG g = GE at *
  clear hL hm h
  cases hon : g.pd.on with
  | false =>
    rw [hon] at q5
    have h1 := HE.out
    have h2 := HG.out
    rw [hon] at h1 h2
    simp only [Bool.false_eq_true, if_false] at h1 h2
    subst h1
    subst h2
    clear hon HE HG
    go_enter Tryz.func104, Tryz.ntmps104
    go_wp2_with fail
    go_ret
    exact ⟨rfl, A, HS.out.1, Upd.refl _ _⟩
  | true =>
    rw [hon] at q5
    have h1 := HE.out
    have h2 := HG.out
    rw [hon] at h1 h2
    simp only [if_true] at h1 h2
    subst h1
    have HG2 := Lib.hid h2
    clear hon HE HG h2
    go_enter Tryz.func104, Tryz.ntmps104
    go_wp2_with first
      | refine wpList_store_mid rfl 30 (.tmp 11) (.tmp 9) rfl lb 5 pendA rfl rfl HS.out.2.1 (by rw [infoPend]; rfl) (by simp [pendA, Value.oneCell']) ?_
    go_ret
    exact ⟨rfl, A, by rw [HG2.out]; exact HS.out.2.2⟩
/-- What Add answers and leaves. -/
def AddP (w : World) (lb : Nat) (E : Int) (G : Lx) (e : Ending) (w' : World) : Prop := e = .returned (.int .i64 E) ∧ ∃ A', LogX w' lb (if E = 0 then G.cnt else G) A' ∧ Upd (fun q => q = lb) w w'
theorem ks_of {x : Rt} {r : RC} (h : rtC x = r) (hk : r.ks.length ≤ 100000) : x.ks.length ≤ 100000 := by rw [← h] at hk; exact hk
def AddRt (w : World) (lb : Nat) (g : Lx) (r : RC) (e : Ending) (w' : World) : Prop := ∃ x : Rt, rtC x = r ∧ AddP w lb (addE g x) (addG g x) e w'
def AddWt (w : World) (lb : Nat) (g : Lx) (r : WC) (e : Ending) (w' : World) : Prop := ∃ x : Wt, x.on = true ∧ wtC x = r ∧ AddP w lb 0 (g.pend x) e w'
theorem addX_no (g : Lx) (A : LA) (lb : Nat) (a : Option Addr) (c n : Nat) (w : World) (h : LogX w lb g A) (hread : Calls Tryz.prog 57 #[.pointer (some ⟨lb, 0, none⟩), .slice a n c] w (ReadNo w)) :
    Calls Tryz.prog 21 #[.pointer (some ⟨lb, 0, none⟩), .slice a n c] w (AddP w lb 5 g) := by
  have HL := Lib.hid h
  clear h
  go_enter Tryz.func21, Tryz.ntmps21
  go_wp2_with fail
  refine hread.mono ?_
  unfold ReadNo
  rintro e w1 ⟨rfl, hU⟩
  have HZ := Lib.hid (And.intro (HL.out.other hU) (hU.mono (S := fun _ => False) (T := fun q => q = lb) (fun _ _ h => h.elim)))
  clear hread hU
  go_wp2_with fail
  go_ret
  exact ⟨rfl, A, HZ.out⟩

set_option maxHeartbeats 4000000 in
theorem addX_1 (g : Lx) (A : LA) (lb : Nat) (a : Option Addr) (c n : Nat) (w : World) (r : RC) (h : LogX w lb g A) (hn0 : 0 ≤ g.n) (hn1 : g.n ≤ 100000) (hg : LxB g) (hks : r.ks.length ≤ 100000)
    (hread : Calls Tryz.prog 57 #[.pointer (some ⟨lb, 0, none⟩), .slice a n c] w (DoRoot w lb r)) :
    Calls Tryz.prog 21 #[.pointer (some ⟨lb, 0, none⟩), .slice a n c] w (AddRt w lb g r) := by
  have hlt := h.lt
  have HL := Lib.hid h
  clear h
  go_enter Tryz.func21, Tryz.ntmps21
  go_wp2_with fail
  refine hread.mono ?_
  rintro e w1 ⟨L2, BX, x, rfl, hL, hX, hx, hin, hbl, hU⟩
  have hr1 := read1X g A lb L2 BX x w1 (HL.out.other hU) hg hin (hbl.mono (fun q hq => ⟨by omega, hq.2⟩)) (ks_of hx hks) hL hX
  have hn : (addG g x).n = g.n := by unfold addG; split <;> (try split) <;> rfl
  have hw : IntKind.i64.wrap ((addG g x).n + 1) = (addG g x).n + 1 := IntWalk.i64_in _ (by rw [hn]; omega)
  have HU := Lib.hid hU
  have HW := Lib.hid hx
  generalize hEE : addE g x = EE at *
  generalize hGG : addG g x = GE at *
  have HEG := Lib.hid (And.intro hEE hGG)
  clear hread hU hEE hGG hn hL hX hx hin hbl hg hks hlt
  go_wp2_with fail
  refine hr1.mono ?_
  unfold Done
  rintro e w2 ⟨rfl, A', hL2, hU2⟩
  have HL2 := Lib.hid hL2
  have HU2 := Lib.hid ((HU.out.mono (fun _ _ h => h.elim)).trans hU2)
  have q := hL2.c12
  have f := hL2.free 12
  clear hr1 hL2 hU2
  by_cases hE0 : EE = 0
  · have hz : ((0 : Int) == 0) = true := rfl
    have hfin := HL2.out.cnt
    have HZ := Lib.hid (And.intro hfin.1 (HU2.out.trans hfin.2))
    have HE0 := Lib.hid hE0
    clear hfin
    subst hE0
    clear hz
    go_wp2_with fail
    go_ret
    exact ⟨x, HW.out, by rw [HEG.out.1, HEG.out.2]; exact ⟨rfl, A', by rw [if_pos rfl]; exact HZ.out⟩⟩
  · have hz : (EE == 0) = false := beq_false_of_ne hE0
    have HE0 := Lib.hid hE0
    clear hE0 q f
    go_wp2_with fail
    go_ret
    exact ⟨x, HW.out, by rw [HEG.out.1, HEG.out.2]; exact ⟨rfl, A', by rw [if_neg HE0.out]; exact ⟨HL2.out, HU2.out⟩⟩⟩

set_option maxHeartbeats 4000000 in
theorem addX_2 (g : Lx) (A : LA) (lb : Nat) (a : Option Addr) (c n : Nat) (w : World) (v : Int) (redo : Bool) (h : LogX w lb g A) (hn0 : 0 ≤ g.n) (hn1 : g.n ≤ 100000) (ht0 : 0 ≤ g.top) (ht1 : g.top ≤ 2000) (htr : g.top ≤ g.rr.length) (hv0 : -1 ≤ v) (hv1 : v < 4294967296) (hd : g.ds.length ≤ 100000)
    (hread : Calls Tryz.prog 57 #[.pointer (some ⟨lb, 0, none⟩), .slice a n c] w (DoMove w lb v redo)) :
    Calls Tryz.prog 21 #[.pointer (some ⟨lb, 0, none⟩), .slice a n c] w (AddP w lb (moveE g v redo) (moveG g v redo)) := by
  have hlt := h.lt
  have HL := Lib.hid h
  clear h
  go_enter Tryz.func21, Tryz.ntmps21
  go_wp2_with fail
  refine hread.mono ?_
  rintro e w1 ⟨L2, c1, c2, rfl, hL, h1, h2, hU⟩
  have hr1 := read2X g A lb L2 c1 c2 v redo w1 (HL.out.other hU) ht0 ht1 htr hv0 hv1 hd hL h1 h2
  have hn : (moveG g v redo).n = g.n := by unfold moveG; split <;> (try split) <;> rfl
  have hw : IntKind.i64.wrap ((moveG g v redo).n + 1) = (moveG g v redo).n + 1 := IntWalk.i64_in _ (by rw [hn]; omega)
  have HU := Lib.hid hU
  have HW := Lib.hid hL
  generalize hEE : moveE g v redo = EE at *
  generalize hGG : moveG g v redo = GE at *
  have HEG := Lib.hid (And.intro hEE hGG)
  clear hread hU hEE hGG hn hL h1 h2 ht0 ht1 htr hv0 hv1 hd hlt
  go_wp2_with fail
  refine hr1.mono ?_
  unfold Done
  rintro e w2 ⟨rfl, A', hL2, hU2⟩
  have HL2 := Lib.hid hL2
  have HU2 := Lib.hid ((HU.out.mono (fun _ _ h => h.elim)).trans hU2)
  have q := hL2.c12
  have f := hL2.free 12
  clear hr1 hL2 hU2
  by_cases hE0 : EE = 0
  · have hz : ((0 : Int) == 0) = true := rfl
    have hfin := HL2.out.cnt
    have HZ := Lib.hid (And.intro hfin.1 (HU2.out.trans hfin.2))
    have HE0 := Lib.hid hE0
    clear hfin
    subst hE0
    clear hz
    go_wp2_with fail
    go_ret
    exact ⟨rfl, A', by rw [if_pos rfl]; exact HZ.out⟩
  · have hz : (EE == 0) = false := beq_false_of_ne hE0
    have HE0 := Lib.hid hE0
    clear hE0 q f
    go_wp2_with fail
    go_ret
    exact ⟨rfl, A', by rw [if_neg HE0.out]; exact ⟨HL2.out, HU2.out⟩⟩

set_option maxHeartbeats 4000000 in
theorem addX_4 (g : Lx) (A : LA) (lb : Nat) (a : Option Addr) (c n : Nat) (w : World) (h : LogX w lb g A) (hn0 : 0 ≤ g.n) (hn1 : g.n ≤ 100000) 
    (hread : Calls Tryz.prog 57 #[.pointer (some ⟨lb, 0, none⟩), .slice a n c] w (DoDrop w lb)) :
    Calls Tryz.prog 21 #[.pointer (some ⟨lb, 0, none⟩), .slice a n c] w (AddP w lb (dropE g) (dropG g)) := by
  have hlt := h.lt
  have HL := Lib.hid h
  clear h
  go_enter Tryz.func21, Tryz.ntmps21
  go_wp2_with fail
  refine hread.mono ?_
  rintro e w1 ⟨L2, rfl, hL, hU⟩
  have hr1 := read4X g A lb L2 w1 (HL.out.other hU) hL
  have hn : (dropG g).n = g.n := by unfold dropG; split <;> (try split) <;> rfl
  have hw : IntKind.i64.wrap ((dropG g).n + 1) = (dropG g).n + 1 := IntWalk.i64_in _ (by rw [hn]; omega)
  have HU := Lib.hid hU
  have HW := Lib.hid hL
  generalize hEE : dropE g = EE at *
  generalize hGG : dropG g = GE at *
  have HEG := Lib.hid (And.intro hEE hGG)
  clear hread hU hEE hGG hn hL hlt
  go_wp2_with fail
  refine hr1.mono ?_
  unfold Done
  rintro e w2 ⟨rfl, A', hL2, hU2⟩
  have HL2 := Lib.hid hL2
  have HU2 := Lib.hid ((HU.out.mono (fun _ _ h => h.elim)).trans hU2)
  have q := hL2.c12
  have f := hL2.free 12
  clear hr1 hL2 hU2
  by_cases hE0 : EE = 0
  · have hz : ((0 : Int) == 0) = true := rfl
    have hfin := HL2.out.cnt
    have HZ := Lib.hid (And.intro hfin.1 (HU2.out.trans hfin.2))
    have HE0 := Lib.hid hE0
    clear hfin
    subst hE0
    clear hz
    go_wp2_with fail
    go_ret
    exact ⟨rfl, A', by rw [if_pos rfl]; exact HZ.out⟩
  · have hz : (EE == 0) = false := beq_false_of_ne hE0
    have HE0 := Lib.hid hE0
    clear hE0 q f
    go_wp2_with fail
    go_ret
    exact ⟨rfl, A', by rw [if_neg HE0.out]; exact ⟨HL2.out, HU2.out⟩⟩

set_option maxHeartbeats 4000000 in
theorem addX_3 (g : Lx) (A : LA) (lb : Nat) (a : Option Addr) (c n : Nat) (w : World) (r : WC) (h : LogX w lb g A) (hn0 : 0 ≤ g.n) (hn1 : g.n ≤ 100000) 
    (hread : Calls Tryz.prog 57 #[.pointer (some ⟨lb, 0, none⟩), .slice a n c] w (DoWait w lb r)) :
    Calls Tryz.prog 21 #[.pointer (some ⟨lb, 0, none⟩), .slice a n c] w (AddWt w lb g r) := by
  have hlt := h.lt
  have HL := Lib.hid h
  clear h
  go_enter Tryz.func21, Tryz.ntmps21
  go_wp2_with fail
  refine hread.mono ?_
  rintro e w1 ⟨L2, BX, x, rfl, hL, hX, ⟨hon, hx⟩, hin, hbl, hU⟩
  have hr1 := read3X g A lb L2 BX x w1 (HL.out.other hU) hin (hbl.mono (fun q hq => ⟨by omega, hq.2⟩)) hL hX
  have hn : (g.pend x).n = g.n := rfl
  have hw : IntKind.i64.wrap ((g.pend x).n + 1) = (g.pend x).n + 1 := IntWalk.i64_in _ (by rw [hn]; omega)
  have HU := Lib.hid hU
  have HW := Lib.hid (And.intro hon hx)
  generalize hGG : g.pend x = GE at *
  have HEG := Lib.hid (And.intro trivial hGG)
  clear hread hU hGG hn hL hX hx hon hin hbl hlt
  go_wp2_with fail
  refine hr1.mono ?_
  unfold Done
  rintro e w2 ⟨rfl, A', hL2, hU2⟩
  have HL2 := Lib.hid hL2
  have HU2 := Lib.hid ((HU.out.mono (fun _ _ h => h.elim)).trans hU2)
  have q := hL2.c12
  have f := hL2.free 12
  clear hr1 hL2 hU2
  have hfin := HL2.out.cnt
  have HZ := Lib.hid (And.intro hfin.1 (HU2.out.trans hfin.2))
  clear hfin
  go_wp2_with fail
  go_ret
  exact ⟨x, HW.out.1, HW.out.2, by rw [HEG.out.2]; exact ⟨rfl, A', by rw [if_pos rfl]; exact HZ.out⟩⟩
end Go.Proofs.YtccejkikphpnfaaGreatDoor

namespace Go.Proofs.YtccejkikphpnfaaGreatDoor
set_option linter.unusedSimpArgs false
set_option linter.unusedVariables false
set_option maxRecDepth 100000
open Go.ChangeShapes Go.WideShapes Go.ChangeAt Go.RowKit

def PendC (w : World) (p : Wt) (e : Ending) (w' : World) : Prop := ∃ q : Wt, e = .returned (.agg (wtA q)) ∧ q.on = p.on ∧ wtC q = wtC p ∧ WtIn w' q ∧ Upd (fun _ => False) w w'
def pendR (p : Wt) (a : Option Addr) (c : Nat) (a6 : Option Addr) (c6 : Nat) : Array Value := #[.bool p.on, .bool p.re, .int .i64 p.src, .int .i64 p.dst, .slice a p.ss.length c, .int .i64 p.com, .slice a6 p.cs.length c6]
/-- In Pending's round. -/
structure Pq (w : World) (p : Wt) (xs : List St) (a : Option Addr) (c : Nat) (a6 : Option Addr) (c6 : Nat) (wr : World) : Prop where
  row : wr.heap[w.heap.size + 1]? = some (.cells (pendR p a c a6 c6) 30)
  res : wr.heap[w.heap.size]? = some (.cells pendA 30)
  own : wr.ownsRow (w.heap.size + 2) 80 2 (.slice a p.ss.length c) p.ss.length (xs.flatMap stV)
  cl : Vw wr a6 p.cs.length c6 3 (p.cs.flatMap clV)
  a6b : ∀ k, blk a6 = some k → w.heap.size + 2 ≤ k ∧ blk a ≠ some k
  ins : ∀ m ∈ xs, StIn wr m ∧ ∀ k, blk m.a = some k → blk a ≠ some k ∧ k ≠ w.heap.size
  same : xs.map stC = p.ss.map stC
  upd : Upd (fun _ => False) w wr
theorem own0 {w : World} {base : Nat} {e : TypeId} {size n c : Nat} {a : Option Addr} {xs : List Value} (h : w.ownsRow base e size (.slice a n c) n xs) : w.ownsRow 0 e size (.slice a n c) n xs := by
  refine ⟨h.1, ?_⟩
  rcases h.2 with h' | ⟨g, cap, cur, h', _, hr⟩
  · exact .inl h'
  · exact .inr ⟨g, cap, cur, h', Nat.zero_le _, hr⟩
theorem flat_set (xs : List St) (j : Nat) (m : St) (v : Value) (hj : j < xs.length) (hm : stV m = [.int .i64 (xs[j]).com, v]) : (xs.flatMap stV).set (j * 2 + 1) v = (xs.set j m).flatMap stV := by
  induction xs generalizing j with
  | nil => cases hj
  | cons x r ih =>
    cases j with
    | zero =>
      simp only [List.flatMap_cons, List.set_cons_zero, List.getElem_cons_zero] at hm ⊢
      rw [hm]
      rfl
    | succ j =>
      simp only [List.flatMap_cons, List.set_cons_succ, List.getElem_cons_succ, List.length_cons] at hm hj ⊢
      rw [← ih j (by omega) hm]
      rw [show (j + 1) * 2 + 1 = (stV x).length + (j * 2 + 1) from by rw [stV_len]; omega, List.set_append]
      rw [if_neg (by omega), Nat.add_sub_cancel_left]
section
variable {w wr w2 : World} {p : Wt} {xs : List St} {a a6 : Option Addr} {c c6 g : Nat}
theorem Pq.other (h : Pq w p xs a c a6 c6 wr) (hU : Upd (fun _ => False) wr w2) : Pq w p xs a c a6 c6 w2 :=
  ⟨(hU.block _ (lt_of_heap h.row) (fun h => h)).trans h.row, (hU.block _ (lt_of_heap h.res) (fun h => h)).trans h.res, ownsRow_upd h.own hU (fun _ _ h => h), h.cl.upd hU (fun _ _ h => h), h.a6b, fun m hm => ⟨(h.ins m hm).1.upd hU, (h.ins m hm).2⟩, h.same, h.upd.trans hU⟩
theorem Pq.len (h : Pq w p xs a c a6 c6 wr) : xs.length = p.ss.length := by have := congrArg List.length h.same; simpa using this
theorem Pq.step (h : Pq w p xs (some ⟨g, 0, none⟩) c a6 c6 w2) (j : Nat) (x : St) (hx : xs[j]? = some x) (a' : Option Addr) (c' : Nat) (hf : Vw w2 a' x.fs.length c' 3 (x.fs.flatMap flV)) (hb : ∀ k, blk a' = some k → k ≠ g ∧ k ≠ w.heap.size) :
    Pq w p (xs.set j ⟨x.com, x.fs, a', c'⟩) (some ⟨g, 0, none⟩) c a6 c6 (w2.setCell ⟨g, j * 2 + 1, none⟩ (.slice a' x.fs.length c')) := by
  obtain ⟨hj, rfl⟩ := List.getElem?_eq_some_iff.1 hx
  have hst := Upd.setCell (S := fun k => k = g) w2 (p := ⟨g, j * 2 + 1, none⟩) rfl (.slice a' (xs[j]).fs.length c')
  have hg := h.own.lt g rfl
  have ho := (h.own.stored (j * 2 + 1) (.slice a' (xs[j]).fs.length c')).1
  rw [flat_set xs j ⟨(xs[j]).com, (xs[j]).fs, a', c'⟩ _ hj rfl] at ho
  have hin := fun m hm => (h.ins m hm).1
  refine ⟨(hst.block _ (lt_of_heap h.row) (by omega)).trans h.row, (hst.block _ (lt_of_heap h.res) (by omega)).trans h.res, ho, h.cl.upd hst (fun k hk e => (h.a6b k hk).2 (by rw [e]; rfl)), h.a6b, fun m hm => ?_, ?_, h.upd.next hst (fun i hi e => by omega)⟩
  · rcases List.mem_or_eq_of_mem_set hm with hm | rfl
    · exact ⟨st_stays _ _ _ m (h.ins m hm).1 hst (fun k hk e => ((h.ins m hm).2 k hk).1 (by rw [e]; rfl)), (h.ins m hm).2⟩
    · have h0 := (h.ins _ (List.getElem_mem hj)).1
      exact ⟨⟨hf.upd hst (fun k hk e => (hb k hk).1 e), h0.p, h0.t⟩, fun k hk => ⟨fun e => (hb k hk).1 (Option.some.inj e).symm, (hb k hk).2⟩⟩
  · rw [List.map_set, ← h.same]
    apply List.ext_getElem?
    intro i
    rw [List.getElem?_set]
    split
    · rename_i e
      subst e
      simp [hj, stC]
    · rfl
end
theorem LogX.rangeP {w : World} {lb : Nat} {g : Lx} {A : LA} (h : LogX w lb g A) : w.rangeAt lb 5 [.bool g.pd.on, .bool g.pd.re, .int .i64 g.pd.src, .int .i64 g.pd.dst, .slice g.pd.sa g.pd.ss.length g.pd.sc, .int .i64 g.pd.com, .slice g.pd.ca g.pd.cs.length g.pd.cc] := by
  intro j u hu
  have hr : w.cell? ⟨lb, 5 + j, none⟩ = some u := by
    rw [cell_of_row _ _ _ _ _ _ h.row]
    match j, hu with
    | 0, hu | 1, hu | 2, hu | 3, hu | 4, hu | 5, hu | 6, hu => exact hu
    | j + 7, hu => simp at hu
  exact hr
set_option maxHeartbeats 8000000 in
theorem mPending_any (g : Lx) (A : LA) (lb : Nat) (w : World) (h : LogX w lb g A) (h1 : g.pd.ss.length ≤ 1000000000) (h2 : g.pd.cs.length ≤ 1000000000) (h3 : ∀ m ∈ g.pd.ss, m.fs.length ≤ 1000000000) :
    Calls Tryz.prog 23 #[.pointer (some ⟨lb, 0, none⟩)] w (PendC w g.pd) := by
  have hlt := h.lt
  have hU1 := Upd.alloc (fun _ => False) w (.cells pendA 30)
  have hb0 := heap_alloc_new w (.cells pendA 30)
  have hr := (h.other hU1).rangeP
  have hpw := h.pw
  obtain ⟨rr, fs, cs0, top, ds, p, n⟩ := g
  dsimp only at hr hpw h1 h2 h3 ⊢
  obtain ⟨p0, hp0⟩ : ∃ p0, p0 = p := ⟨_, rfl⟩
  have HP0 := Lib.hid hp0
  have HPW : Hid (WtIn w p0 ∧ WtBl (Bd w lb) p0) := Lib.hid (by rw [hp0]; exact hpw)
  have HB : Hid (p0.ss.length ≤ 1000000000 ∧ p0.cs.length ≤ 1000000000 ∧ (∀ m ∈ p0.ss, m.fs.length ≤ 1000000000)) := Lib.hid (by rw [hp0]; exact ⟨h1, h2, h3⟩)
  rw [← hp0]
  clear hp0 hpw h1 h2 h3 h
  obtain ⟨on, re, src, dst, sa, sc, ss, com, ca, cc, cs⟩ := p
  dsimp only at hr
  have HU1 := Lib.hid (And.intro hU1 (And.intro hb0 hr))
  clear hU1 hb0 hr
  go_enter Tryz.func23, Tryz.ntmps23
  go_upto_region 3 with (fail)
  have hpA : pendA = #[.bool false, .bool false, .int .i64 0, .int .i64 0, .slice none 0 0, .int .i64 0, .slice none 0 0] := rfl
  rw [hpA] at HU1
  have HPA := Lib.hid hpA
  clear hpA
  have hy0 : World.heap (w.alloc (.cells #[.bool false, .bool false, .int .i64 0, .int .i64 0, .slice none 0 0, .int .i64 0, .slice none 0 0] 30)) = World.heap (w.alloc (.cells #[.bool false, .bool false, .int .i64 0, .int .i64 0, .slice none 0 0, .int .i64 0, .slice none 0 0] 30)) := rfl
  have hsz : (w.alloc (.cells #[.bool false, .bool false, .int .i64 0, .int .i64 0, .slice none 0 0, .int .i64 0, .slice none 0 0] 30)).heap.size = w.heap.size + 1 := by simp
  have HSZ := Lib.hid hsz
  clear hsz hy0
  generalize w.alloc (.cells #[.bool false, .bool false, .int .i64 0, .int .i64 0, .slice none 0 0, .int .i64 0, .slice none 0 0] 30) = y0 at *
  have hr := HU1.out.2.2
  go_upto_region 4 with (refine wpList_load_mid rfl 30 (.tmp 10) rfl lb 5 rfl [.bool on, .bool re, .int .i64 src, .int .i64 dst, .slice sa ss.length sc, .int .i64 com, .slice ca cs.length cc] _ hr Tryz.underlying30 rfl infoPend5 ?_)
  clear hr
  have hUa := Upd.alloc (fun _ => False) y0 (.cells #[.bool on, .bool re, .int .i64 src, .int .i64 dst, .slice sa ss.length sc, .int .i64 com, .slice ca cs.length cc] 30)
  have hra := heap_alloc_new y0 (.cells #[.bool on, .bool re, .int .i64 src, .int .i64 dst, .slice sa ss.length sc, .int .i64 com, .slice ca cs.length cc] 30)
  rw [HSZ.out] at hra
  have hres := (hUa.block _ (lt_of_heap HU1.out.2.1) (fun h => h)).trans HU1.out.2.1
  have hUd := Upd.drew (fun _ => False) (y0.alloc (.cells #[.bool on, .bool re, .int .i64 src, .int .i64 dst, .slice sa ss.length sc, .int .i64 com, .slice ca cs.length cc] 30))
  have hwd := HU1.out.1.trans (hUa.trans hUd)
  have hsz2 : (y0.alloc (.cells #[.bool on, .bool re, .int .i64 src, .int .i64 dst, .slice sa ss.length sc, .int .i64 com, .slice ca cs.length cc] 30)).heap.size = w.heap.size + 2 := by have := HSZ.out; simp; omega
  have hsz3 : (y0.alloc (.cells #[.bool on, .bool re, .int .i64 src, .int .i64 dst, .slice sa ss.length sc, .int .i64 com, .slice ca cs.length cc] 30)).drew.heap.size = w.heap.size + 2 := hsz2
  have hra3 : (y0.alloc (.cells #[.bool on, .bool re, .int .i64 src, .int .i64 dst, .slice sa ss.length sc, .int .i64 com, .slice ca cs.length cc] 30)).drew.heap[w.heap.size + 1]? = some (.cells #[.bool on, .bool re, .int .i64 src, .int .i64 dst, .slice sa ss.length sc, .int .i64 com, .slice ca cs.length cc] 30) := hra
  have hres3 : (y0.alloc (.cells #[.bool on, .bool re, .int .i64 src, .int .i64 dst, .slice sa ss.length sc, .int .i64 com, .slice ca cs.length cc] 30)).drew.heap[w.heap.size]? = some (.cells #[.bool false, .bool false, .int .i64 0, .int .i64 0, .slice none 0 0, .int .i64 0, .slice none 0 0] 30) := hres
  have HX := Lib.hid (And.intro hra3 (And.intro hres3 (And.intro hwd hsz3)))
  have HPI : Hid (WtIn (y0.alloc (.cells #[.bool on, .bool re, .int .i64 src, .int .i64 dst, .slice sa ss.length sc, .int .i64 com, .slice ca cs.length cc] 30)).drew p0) := Lib.hid (HPW.out.1.upd hwd)
  obtain ⟨B3, hB3⟩ : ∃ B, B = w.heap.size + 1 := ⟨_, rfl⟩
  have HB3 := Lib.hid hB3
  have hpt : w.heap.size + 1 = B3 := hB3.symm
  rw [hpt] at HX
  have hq6 : (y0.alloc (.cells #[.bool on, .bool re, .int .i64 src, .int .i64 dst, .slice sa ss.length sc, .int .i64 com, .slice ca cs.length cc] 30)).drew.cell? ⟨B3, 6, none⟩ = some (.slice ca cs.length cc) := by rw [cell_of_row _ _ _ _ _ _ HX.out.1]; rfl
  have hq4 : (y0.alloc (.cells #[.bool on, .bool re, .int .i64 src, .int .i64 dst, .slice sa ss.length sc, .int .i64 com, .slice ca cs.length cc] 30)).drew.cell? ⟨B3, 4, none⟩ = some (.slice sa ss.length sc) := by rw [cell_of_row _ _ _ _ _ _ HX.out.1]; rfl
  have hB3' : y0.heap.size = B3 := by rw [HSZ.out, hB3]
  rw [hB3']
  clear hUa hra hres hUd hwd hsz2 hsz3 hra3 hres3 hB3 hpt hB3'
  refine wp_region_plan_last [([0, 3, 4], 1), ([], 2), ([6], 5), ([], 7), ([8], 9)] [] (fun w' => w'.cell? ⟨B3, 6, none⟩ = some (.slice ca cs.length cc)) (by kernel_rfl) (by kernel_rfl) hq6 ?_
  generalize (y0.alloc (.cells #[.bool on, .bool re, .int .i64 src, .int .i64 dst, .slice sa ss.length sc, .int .i64 com, .slice ca cs.length cc] 30)).drew = y2 at *
  iterate 3
    refine plan_take (v := ?_) rfl rfl (fun w' hS => ?_) ?_
    rotate_left
    · skip
      go_simp; try with_reducible rfl
    simp only [Act.put, List.getElem_toArray, List.getElem_cons_zero, List.getElem_cons_succ, List.setIfInBounds_toArray, List.set_cons_zero, List.set_cons_succ]
  refine plan_act rfl (fun K1 hK1 => ?_)
  go_wp2_with fail
  refine hK1.out _ _ (.inr hq6) ?_
  refine plan_act rfl (fun K2 hK2 => ?_)
  have hcs := cloneSe_any sa sc ss y2 (by have h := HPI.out.sv; rw [HP0.out] at h; exact h) (by have h := HB.out.1; rw [HP0.out] at h; exact h)
  clear hq4
  go_wp2_with fail
  refine hcs.mono ?_
  unfold ClonedSe
  rintro e w3 ⟨a4, c4, rfl, hown4, hU3⟩
  have hq6' : w3.cell? ⟨B3, 6, none⟩ = some (.slice ca cs.length cc) := (hU3.cell (World.block_lt_of_cell? _ _ hq6) (fun h => h)).trans hq6
  have HO4 := Lib.hid (And.intro hown4 hU3)
  clear hcs hown4 hU3 hq6
  go_wp2_with fail
  refine hK2.out _ _ (.inr hq6') ?_
  iterate 1
    refine plan_take (v := ?_) rfl rfl (fun w' hS => ?_) ?_
    rotate_left
    · skip
      go_simp; try with_reducible rfl
    simp only [Act.put, List.getElem_toArray, List.getElem_cons_zero, List.getElem_cons_succ, List.setIfInBounds_toArray, List.set_cons_zero, List.set_cons_succ]
  refine plan_act rfl (fun K5 hK5 => ?_)
  have hcs := cloneCl_any ca cc cs w3 (by have h := (HPI.out.upd HO4.out.2).cv; rw [HP0.out] at h; exact h) (by have h := HB.out.2.1; rw [HP0.out] at h; exact h)
  go_wp2_with fail
  refine hcs.mono ?_
  unfold ClonedCl
  rintro e w4 ⟨a6, c6, rfl, hown6, hU4⟩
  have hq6 : w4.cell? ⟨B3, 6, none⟩ = some (.slice ca cs.length cc) := (hU4.cell (World.block_lt_of_cell? _ _ hq6') (fun h => h)).trans hq6'
  have HO6 := Lib.hid (And.intro hown6 hU4)
  clear hcs hown6 hU4 hq6'
  go_wp2_with fail
  refine hK5.out _ _ (.inr hq6) ?_
  refine plan_act rfl (fun K7 hK7 => ?_)
  have hrow4 := ((HO4.out.2.trans HO6.out.2).block _ (lt_of_heap HX.out.1) (fun h => h)).trans HX.out.1
  have hres4 := ((HO4.out.2.trans HO6.out.2).block _ (lt_of_heap HX.out.2.1) (fun h => h)).trans HX.out.2.1
  have q4 : w4.cell? ⟨B3, 4, none⟩ = some (.slice sa ss.length sc) := by rw [cell_of_row _ _ _ _ _ _ hrow4]; rfl
  have f4 : w4.frozen? ⟨B3, 4, none⟩ = false := free_row hrow4
  have HR4 := Lib.hid (And.intro hrow4 hres4)
  clear hrow4 hres4
  go_wp2_with fail
  have hrow5 := setCell_heap 4 (.slice a4 ss.length c4) HR4.out.1
  have hq65 : (w4.setCell ⟨B3, 4, none⟩ (.slice a4 ss.length c4)).cell? ⟨B3, 6, none⟩ = some (.slice ca cs.length cc) := by rw [cell_of_row _ _ _ _ _ _ hrow5]; rfl
  refine hK7.out _ _ (.inr hq65) ?_
  have HU5 := Lib.hid (Upd.setCell (S := fun k => k = B3) w4 (p := ⟨B3, 4, none⟩) rfl (.slice a4 ss.length c4))
  have HR5 := Lib.hid hrow5
  clear q4 f4 hq6 hrow5
  generalize w4.setCell ⟨B3, 4, none⟩ (.slice a4 ss.length c4) = w5 at *
  iterate 1
    refine plan_take (v := ?_) rfl rfl (fun w' hS => ?_) ?_
    rotate_left
    · skip
      go_simp; try with_reducible rfl
    simp only [Act.put, List.getElem_toArray, List.getElem_cons_zero, List.getElem_cons_succ, List.setIfInBounds_toArray, List.set_cons_zero, List.set_cons_succ]
  refine plan_act rfl (fun K9 hK9 => ?_)
  have f6 : w5.frozen? ⟨B3, 6, none⟩ = false := free_row HR5.out
  go_wp2_with fail
  refine hK9.out _ _ (.inl rfl) ?_
  have hrow6 := setCell_heap 6 (.slice a6 cs.length c6) HR5.out
  have HU6 := Lib.hid (Upd.setCell (S := fun k => k = B3) w5 (p := ⟨B3, 6, none⟩) rfl (.slice a6 cs.length c6))
  have HR6 := Lib.hid hrow6
  clear f6 hq65 hrow6
  generalize w5.setCell ⟨B3, 6, none⟩ (.slice a6 cs.length c6) = w6 at *
  refine plan_end ?_
  have hww : Upd (fun _ => False) w w6 := ((HX.out.2.2.1.trans (HO4.out.2.trans HO6.out.2)).next HU5.out (fun i hi e => by have := HB3.out; omega)).next HU6.out (fun i hi e => by have := HB3.out; omega)
  have hP : Pq w p0 ss a4 c4 a6 c6 w6 := by
    have l4 := HO4.out.1.lt
    have l6 := HO6.out.1.lt
    have z := HX.out.2.2.2
    have z3 := HO4.out.2.size
    have hb := HB3.out
    have e1 : p0.ss = ss := by rw [HP0.out]
    have e2 : p0.cs = cs := by rw [HP0.out]
    have own4 : w6.ownsRow y2.heap.size 80 2 (.slice a4 ss.length c4) ss.length (ss.flatMap stV) := ownsRow_upd (ownsRow_upd (ownsRow_upd HO4.out.1 HO6.out.2 (fun _ _ h => h)) HU5.out (fun k hk e => by have := l4 k hk; omega)) HU6.out (fun k hk e => by have := l4 k hk; omega)
    have own6 : w6.ownsRow w3.heap.size 100 3 (.slice a6 cs.length c6) cs.length (cs.flatMap clV) := ownsRow_upd (ownsRow_upd HO6.out.1 HU5.out (fun k hk e => by have := l6 k hk; omega)) HU6.out (fun k hk e => by have := l6 k hk; omega)
    rw [z] at own4
    refine ⟨?_, ?_, by rw [e1]; exact own4, by rw [e2]; exact Vw.of_own (own0 own6), fun k hk => ⟨?_, fun hk4 => ?_⟩, fun m hm => ⟨(HPW.out.1.upd hww).se m (by rw [e1]; exact hm), fun k hk => ⟨fun hk4 => ?_, ?_⟩⟩, by rw [e1], hww⟩
    · rw [← hb, HR6.out, HP0.out]; rfl
    · have := HR4.out.2
      rw [HPA.out]
      exact (HU6.out.block _ (lt_of_heap ((HU5.out.block _ (lt_of_heap this) (by omega)).trans this)) (by omega)).trans ((HU5.out.block _ (lt_of_heap this) (by omega)).trans this)
    · have := l6 k ((own_blk _ _ _).trans hk); omega
    · have h1 := l6 k ((own_blk _ _ _).trans hk); have h2 := l4 k ((own_blk _ _ _).trans hk4); omega
    · have h1 := HPW.out.2.e m (by rw [e1]; exact hm) k hk
      have h2 := l4 k ((own_blk _ _ _).trans hk4)
      have := h1.2
      omega
    · have h1 := HPW.out.2.e m (by rw [e1]; exact hm) k hk
      have := h1.2
      omega
  have HP := Lib.hid hP
  have HFS : Hid (∀ m ∈ ss, m.fs.length ≤ 1000000000) := Lib.hid (by have h := HB.out.2.2; rw [HP0.out] at h; exact h)
  have HSS : Hid (p0.ss = ss) := Lib.hid (by rw [HP0.out])
  have hSn : ss.length ≤ 1000000000 := by have h := HB.out.1; rw [HP0.out] at h; exact h
  have q4 : w6.cell? ⟨B3, 4, none⟩ = some (.slice a4 ss.length c4) := by rw [HB3.out, cell_of_row _ _ _ _ _ _ hP.row, ← HSS.out]; rfl
  clear hP hww HX HO4 HO6 HU5 HU6 HR4 HR5 HR6 HPI HU1 HB
  go_wp2_with fail
  go_loopw [23] (fun i wr => ∃ (j : Nat) (xs : List St), j ≤ ss.length ∧ i = .int .i64 (j : Int) ∧ Hid (Pq w p0 xs a4 c4 a6 c6 wr)) (fun i _ => ss.length - (intOf i).toNat)
  case atStart => exact ⟨0, ss, Nat.zero_le _, rfl, HP⟩
  case round =>
    obtain ⟨j, xs, hj, rfl, HQ⟩ := hrel
    clear q4 HP
    have hr3 := HQ.out.row
    rw [← HB3.out] at hr3
    have q4 : wr.cell? ⟨B3, 4, none⟩ = some (.slice a4 ss.length c4) := by rw [cell_of_row _ _ _ _ _ _ hr3, ← HSS.out]; rfl
    clear hr3
    by_cases hlt : j < ss.length
    · have hI : (j : Int) < (ss.length : Int) := by omega
      have hI0 : (0 : Int) ≤ (j : Int) := by omega
      have hjx : j < xs.length := by have := HQ.out.len; rw [HSS.out] at this; omega
      obtain ⟨g, rfl⟩ : ∃ g, a4 = some ⟨g, 0, none⟩ := by
        rcases HQ.out.own.2 with ⟨_, h0⟩ | ⟨g, cap, cur, he, _⟩
        · rw [HSS.out] at h0; omega
        · simp only [Value.slice.injEq] at he
          exact ⟨g, he.1⟩
      obtain ⟨x, hx⟩ : ∃ x, xs[j]? = some x := ⟨_, List.getElem?_eq_getElem hjx⟩
      have hxj : xs[j] = x := by rw [List.getElem?_eq_getElem hjx] at hx; exact Option.some.inj hx
      have hel : (xs.flatMap stV)[j * 2 + 1]? = some (.slice x.a x.fs.length x.c) := by rw [← hxj]; exact (st_get xs j 1 hjx (by decide)).trans rfl
      have qe : wr.cell? ⟨g, j * 2 + 1, none⟩ = some (.slice x.a x.fs.length x.c) := (HQ.out.own.cellAt (j * 2 + 1) (by rw [HSS.out]; omega)).trans hel
      have hfl : x.fs.length ≤ 1000000000 := by
        have h1 := congrArg (fun z => z[j]?) HQ.out.same
        rw [HSS.out] at h1
        simp only [List.getElem?_map, hx, List.getElem?_eq_getElem hlt, Option.map_some, Option.some.injEq, stC, Prod.mk.injEq] at h1
        rw [h1.2]
        exact HFS.out _ (List.getElem_mem hlt)
      have hin := (HQ.out.ins x (List.mem_of_getElem? hx)).1
      have hcl := cloneFi_any x.a x.c x.fs wr.drew (hin.upd (Upd.drew _ _)).v hfl
      have hstep := fun (w2 : World) (hU : Upd (fun _ => False) wr w2) => (HQ.out.other hU).step j x hx
      have HST := Lib.hid hstep
      have hgl := HQ.out.own.lt g rfl
      have HGL := Lib.hid hgl
      clear hel hfl hin hstep hgl hx hxj hjx
      go_upto_region 8 with (fail)
      have hS0 : wr.drew.cell? ⟨B3, 4, none⟩ = some (.slice (some ⟨g, 0, none⟩) ss.length c4) ∧ wr.drew.cell? ⟨g, j * 2 + 1, none⟩ = some (.slice x.a x.fs.length x.c) := ⟨q4, qe⟩
      refine wp_region_plan_last [([0, 1, 2, 3, 4, 5, 6, 7, 8], 9), ([10, 11], 12)] [] (fun w' => w'.cell? ⟨B3, 4, none⟩ = some (.slice (some ⟨g, 0, none⟩) ss.length c4) ∧ w'.cell? ⟨g, j * 2 + 1, none⟩ = some (.slice x.a x.fs.length x.c)) (by kernel_rfl) (by kernel_rfl) hS0 ?_
      iterate 9
        refine plan_take (v := ?_) rfl rfl (fun w' hS => ?_) ?_
        rotate_left
        · skip
          go_simp; try with_reducible rfl
        simp only [Act.put, List.getElem_toArray, List.getElem_cons_zero, List.getElem_cons_succ, List.setIfInBounds_toArray, List.set_cons_zero, List.set_cons_succ]
      refine plan_act rfl (fun K9 hK9 => ?_)
      go_wp2_with fail
      refine hcl.mono ?_
      unfold ClonedFi
      rintro e w2 ⟨a', c', rfl, hown, hU⟩
      have hS2 : w2.cell? ⟨B3, 4, none⟩ = some (.slice (some ⟨g, 0, none⟩) ss.length c4) ∧ w2.cell? ⟨g, j * 2 + 1, none⟩ = some (.slice x.a x.fs.length x.c) :=
        ⟨(hU.cell (World.block_lt_of_cell? _ _ hS0.1) (fun h => h)).trans hS0.1, (hU.cell (World.block_lt_of_cell? _ _ hS0.2) (fun h => h)).trans hS0.2⟩
      have hlt' := hown.lt
      have HN := Lib.hid (HST.out w2 ((Upd.drew _ _).trans hU) a' c' (Vw.of_own (own0 hown)) (fun k hk => by have h1 := hlt' k ((own_blk _ _ _).trans hk); have h2 := HGL.out.2; have h3 : wr.drew.heap.size = wr.heap.size := rfl; have h4 := lt_of_heap HQ.out.res; exact ⟨by omega, by omega⟩))
      have fe : w2.frozen? ⟨g, j * 2 + 1, none⟩ = false := (HQ.out.other ((Upd.drew _ _).trans hU)).own.frozenAt (j * 2 + 1)
      clear hown hU hlt' hcl
      go_wp2_with fail
      refine hK9.out _ _ (.inr hS2) ?_
      iterate 2
        refine plan_take (v := ?_) rfl rfl (fun w' hS => ?_) ?_
        rotate_left
        · skip
          go_simp; try with_reducible rfl
        simp only [Act.put, List.getElem_toArray, List.getElem_cons_zero, List.getElem_cons_succ, List.setIfInBounds_toArray, List.set_cons_zero, List.set_cons_succ]
      refine plan_act rfl (fun K12 hK12 => ?_)
      have qe2 := hS2.2
      go_wp2_with fail
      refine hK12.out _ _ (.inl rfl) ?_
      refine plan_end ?_
      go_wp2_with fail
      go_roundw
      case rel => exact ⟨j + 1, _, by omega, by first | rfl | go_num, HN⟩
      case measure => simp [intOf]; omega
    · obtain rfl : j = ss.length := by omega
      have hlen := HQ.out.len
      have hrow := HQ.out.row
      have hres := HQ.out.res
      have hsame := HQ.out.same
      have hq : pendR p0 a4 c4 a6 c6 = wtA ⟨p0.on, p0.re, p0.src, p0.dst, a4, c4, xs, p0.com, a6, c6, p0.cs⟩ := by unfold pendR wtA; rw [hlen]
      rw [hq, ← HB3.out] at hrow
      have HRO := Lib.hid (And.intro hrow (And.intro hres hsame))
      have HA5 := Lib.hid (And.intro (show (Tryz.prog.info? 30).map (·.size) = some (wtA ⟨p0.on, p0.re, p0.src, p0.dst, a4, c4, xs, p0.com, a6, c6, p0.cs⟩).size from by rw [infoPend]; rfl) (wtA_one ⟨p0.on, p0.re, p0.src, p0.dst, a4, c4, xs, p0.com, a6, c6, p0.cs⟩))
      have hUr := Upd.setRow (S := fun k => k = w.heap.size) wr (b := w.heap.size) rfl (wtA ⟨p0.on, p0.re, p0.src, p0.dst, a4, c4, xs, p0.com, a6, c6, p0.cs⟩)
      have HZ : Hid (WtIn (wr.setRow w.heap.size (wtA ⟨p0.on, p0.re, p0.src, p0.dst, a4, c4, xs, p0.com, a6, c6, p0.cs⟩)) ⟨p0.on, p0.re, p0.src, p0.dst, a4, c4, xs, p0.com, a6, c6, p0.cs⟩ ∧ Upd (fun _ => False) w (wr.setRow w.heap.size (wtA ⟨p0.on, p0.re, p0.src, p0.dst, a4, c4, xs, p0.com, a6, c6, p0.cs⟩))) := by
        have ho := HQ.out.own
        rw [← hlen] at ho
        have hl := ho.lt
        refine Lib.hid ⟨⟨(Vw.of_own (own0 ho)).upd hUr (fun k hk e => by have := hl k ((own_blk _ _ _).trans hk); omega), fun m hm => st_stays _ _ _ m (HQ.out.ins m hm).1 hUr (fun k hk e => ((HQ.out.ins m hm).2 k hk).2 e), HQ.out.cl.upd hUr (fun k hk e => by have := (HQ.out.a6b k hk).1; omega)⟩, HQ.out.upd.next hUr (fun i hi e => by omega)⟩
      have hone : Hid (pendA.size = 7) := Lib.hid rfl
      have hs7 : Hid ((wtA ⟨p0.on, p0.re, p0.src, p0.dst, a4, c4, xs, p0.com, a6, c6, p0.cs⟩).size = 7) := Lib.hid rfl
      clear hlen hq hrow hsame hUr
      generalize hAA : wtA ⟨p0.on, p0.re, p0.src, p0.dst, a4, c4, xs, p0.com, a6, c6, p0.cs⟩ = AA at *
      have HAA := Lib.hid hAA
      clear hAA
      have hvar := HRO.out.1
      go_wp2_with first
        | refine wpList_load_row rfl 30 (.tmp 3) rfl B3 AA 30 (0, 0) _ rfl hvar Tryz.underlying30 rfl HA5.out.1 ?_
        | refine wpList_store_row rfl 30 (.tmp 2) (.tmp 39) rfl w.heap.size AA _ 30 rfl rfl hres HA5.out.1 (by rw [hs7.out]; rfl) HA5.out.2 ?_
      have hrw := setRow_heap _ _ _ AA _ _ hres
      exact ret_row rfl w.heap.size AA 30 (0, 0) _ rfl hrw Tryz.underlying30 rfl HA5.out.1 rfl ⟨⟨p0.on, p0.re, p0.src, p0.dst, a4, c4, xs, p0.com, a6, c6, p0.cs⟩, by rw [HAA.out], rfl, by unfold wtC; rw [HRO.out.2.2], HZ.out.1, HZ.out.2⟩
end Go.Proofs.YtccejkikphpnfaaGreatDoor

namespace Go.Proofs.YtccejkikphpnfaaGreatDoor
set_option linter.unusedSimpArgs false
set_option linter.unusedVariables false
set_option maxRecDepth 100000
open Go.ChangeShapes Go.WideShapes Go.ChangeAt Go.RowKit

def g0 : Lx := ⟨[], [], [], 0, [], wt0, 0⟩
theorem logX_new {w : World} {lb : Nat} (h : LogW w lb ⟨[], [], [], 0, [], 0⟩ ⟨none, 0, none, 0, none, 0, none, 0⟩) : LogX w lb g0 ⟨none, 0, none, 0, none, 0, none, 0⟩ :=
  ⟨h.row, Vw.nl _ _, Vw.nl _ _, Vw.nl _ _, Vw.nl _ _, (fun q e => by cases e), (fun q e => by cases e), (fun q e => by cases e), (fun q e => by cases e), (fun r hr => by cases hr), wt0_in _, wt0_bl _⟩
section
variable {w : World} {lb : Nat} {g : Lx} {A : LA}
theorem mAtX (h : LogX w lb g A) (h0 : 0 ≤ g.top) (h1 : g.top ≤ 100000) : Calls Tryz.prog 24 #[.pointer (some ⟨lb, 0, none⟩)] w fun e w' => e = .returned (.int .i64 (g.top - 1)) ∧ w = w' := by
  have q := h.c3
  have hw : IntKind.i64.wrap (g.top - 1) = g.top - 1 := IntWalk.i64_in _ (by omega)
  clear h
  go_enter Tryz.func24, Tryz.ntmps24
  go_wp2_with fail
  go_ret
  exact ⟨rfl, rfl⟩
theorem mRecordsX (h : LogX w lb g A) : Calls Tryz.prog 25 #[.pointer (some ⟨lb, 0, none⟩)] w fun e w' => e = .returned (.int .i64 g.n) ∧ w = w' := by
  have q := h.c12
  clear h
  go_enter Tryz.func25, Tryz.ntmps25
  go_wp2_with fail
  go_ret
  exact ⟨rfl, rfl⟩
theorem addDropX (h : LogX w lb g A) (a : Option Addr) (c : Nat) (hn0 : 0 ≤ g.n) (hn1 : g.n ≤ 100000) (hv : Vw w a ([4] : List UInt8).length c 1 (bvs [4])) :
    Calls Tryz.prog 21 #[.pointer (some ⟨lb, 0, none⟩), .slice a ([4] : List UInt8).length c] w (AddP w lb (dropE g) (dropG g)) :=
  addX_4 g A lb a c _ w h hn0 hn1 ((read_dropX lb a c [4] w hv (by decide) rfl).mono (fun e w' hr => by unfold ReadDp at hr; rw [if_pos (show okDrop [4] = true from rfl)] at hr; exact hr))
theorem addRootK (h : LogX w lb g A) (r : RC) (hr : rootBC r = true) (hl : (rootGC r).length ≤ 70000000) (hks : r.ks.length ≤ 100000) (hg : LxB g) (a : Option Addr) (c : Nat) (hn0 : 0 ≤ g.n) (hn1 : g.n ≤ 100000) (hv : Vw w a (rootGC r).length c 1 (bvs (rootGC r))) :
    Calls Tryz.prog 21 #[.pointer (some ⟨lb, 0, none⟩), .slice a (rootGC r).length c] w (AddRt w lb g r) := by
  obtain ⟨hk, hb⟩ := root_back r hr
  have hok : okRoot (rootGC r) = true := by unfold okRoot; rw [hb]; simp [hr]
  refine addX_1 g A lb a c _ w r h hn0 hn1 hg hks ((read_rootX lb a c _ w hv hl hk).mono (fun e w' hx => ?_))
  unfold ReadRt at hx
  rw [if_pos hok, hb] at hx
  exact hx
theorem addWaitK (h : LogX w lb g A) (r : WC) (hr : waitBC r = true) (hl : (waitGC r).length ≤ 70000000) (a : Option Addr) (c : Nat) (hn0 : 0 ≤ g.n) (hn1 : g.n ≤ 100000) (hv : Vw w a (waitGC r).length c 1 (bvs (waitGC r))) :
    Calls Tryz.prog 21 #[.pointer (some ⟨lb, 0, none⟩), .slice a (waitGC r).length c] w (AddWt w lb g r) := by
  obtain ⟨hk, hb⟩ := wait_back r hr (by omega)
  have hok : okWait (waitGC r) = true := by unfold okWait; rw [hb]; simp [hr]
  refine addX_3 g A lb a c _ w r h hn0 hn1 ((read_waitX lb a c _ w hv hl hk).mono (fun e w' hx => ?_))
  unfold ReadWt at hx
  rw [if_pos hok, hb] at hx
  exact hx
theorem move_back (v : Int) (redo : Bool) (h0 : -1 ≤ v) (h1 : v < 100000) : kindL (moveL v redo) = 2 ∧ intV (s1L (moveL v redo)) = v ∧ (boolS (takeS 4 (s1L (moveL v redo))).2).1 = redo := by
  have e : moveL v redo = 2 :: (i4 v ++ b1 redo) := by unfold moveL; simp
  rw [e]
  obtain ⟨hk, hs⟩ := kind_cons 2 (i4 v ++ b1 redo)
  rw [hs]
  refine ⟨hk, ?_, ?_⟩
  · exact intV_i4 v _ h0 (by omega)
  · rw [takeS_app' 4 (i4 v) (b1 redo) (i4_length v)]
    have e := boolS_b1 redo []
    rw [List.append_nil] at e
    rw [e]
theorem addMoveK (h : LogX w lb g A) (v : Int) (redo : Bool) (h0 : -1 ≤ v) (h1 : v < 100000) (ht0 : 0 ≤ g.top) (ht1 : g.top ≤ 2000) (htr : g.top ≤ g.rr.length) (hd : g.ds.length ≤ 100000) (a : Option Addr) (c : Nat) (hn0 : 0 ≤ g.n) (hn1 : g.n ≤ 100000) (hv : Vw w a (moveL v redo).length c 1 (bvs (moveL v redo))) :
    Calls Tryz.prog 21 #[.pointer (some ⟨lb, 0, none⟩), .slice a (moveL v redo).length c] w (AddP w lb (moveE g v redo) (moveG g v redo)) := by
  obtain ⟨hk, hb, hc⟩ := move_back v redo h0 h1
  have hok : okMove (moveL v redo) = true := by unfold okMove; rw [hb, hc]; simp
  have hlen : (moveL v redo).length ≤ 70000000 := by unfold moveL; simp [i4_length, b1]
  refine addX_2 g A lb a c _ w v redo h hn0 hn1 ht0 ht1 htr h0 (by omega) hd ((read_moveX lb a c _ w hv hlen hk).mono (fun e w' hx => ?_))
  unfold ReadMv at hx
  rw [if_pos hok] at hx
  unfold mvV mvR at hx
  rw [hb, hc] at hx
  exact hx
end
def rM : RC := ⟨-1, [], [], [], -1⟩
def rZ : RC := ⟨0, [], [], [], -1⟩
def rtM : Rt := ⟨-1, none, 0, [], none, 0, [], none, 0, [], -1⟩
def rtZ : Rt := ⟨0, none, 0, [], none, 0, [], none, 0, [], -1⟩
def rt0 : Rt := ⟨0, none, 0, [], none, 0, [], none, 0, [], 0⟩
theorem rM_ok : rootGR rtM = rootGC rM ∧ rootGE rtM = 0 ∧ rootBC rM = true := by
  have h : rootB rtM = true := by decide
  have hb : rootBC rM = true := by decide
  have e : rtC rtM = rM := rfl
  exact ⟨by unfold rootGR; rw [if_pos h, rootG_c, e], by unfold rootGE; rw [if_pos h], hb⟩
theorem rZ_ok : rootGR rtZ = rootGC rZ ∧ rootGE rtZ = 0 ∧ rootBC rZ = true := by
  have h : rootB rtZ = true := by decide
  have hb : rootBC rZ = true := by decide
  have e : rtC rtZ = rZ := rfl
  exact ⟨by unfold rootGR; rw [if_pos h, rootG_c, e], by unfold rootGE; rw [if_pos h], hb⟩
def W1 (x : Rt) : Lx := ⟨[x], [0], [], 1, [], wt0, 1⟩
def W2 (x : Rt) (y : Wt) : Lx := ⟨[x], [0], [], 1, [], y, 2⟩
def W3 (x x2 : Rt) : Lx := ⟨[x, x2], [0, 0], [], 2, [], wt0, 3⟩
def W4 (x : Rt) : Lx := ⟨[x], [0], [], 1, [], wt0, 3⟩
theorem ks_nil {x : Rt} {r : RC} (h : rtC x = r) (hr : r.ks = []) : x.ks = [] := by rw [← h] at hr; exact hr
theorem add_1 {x : Rt} (h : rtC x = rM) : addE g0 x = 0 ∧ (addG g0 x).cnt = W1 x := by
  have hp : x.p = -1 := congrArg RC.p h
  have hk : x.ks = [] := ks_nil h rfl
  have he : addE g0 x = 0 := by unfold addE g0; simp [hp, hk]
  exact ⟨he, by unfold addG; rw [if_pos he, hk]; rfl⟩
theorem add_2 {x x2 : Rt} {y : Wt} (h : rtC x2 = rZ) : addE (W2 x y) x2 = 0 ∧ (addG (W2 x y) x2).cnt = W3 x x2 := by
  have hp : x2.p = 0 := congrArg RC.p h
  have hk : x2.ks = [] := ks_nil h rfl
  have he : addE (W2 x y) x2 = 0 := by unfold addE W2; simp [hp, hk]
  exact ⟨he, by unfold addG; rw [if_pos he, hk]; rfl⟩
theorem drop_2 {x : Rt} {y : Wt} (h : y.on = true) : dropE (W2 x y) = 0 ∧ (dropG (W2 x y)).cnt = W4 x := by
  have h' : (W2 x y).pd.on = true := h
  exact ⟨by unfold dropE; rw [if_pos h'], by unfold dropG; rw [if_pos h']; rfl⟩
theorem move_2 {x : Rt} {y : Wt} (h : y.on = true) (v : Int) (redo : Bool) : moveE (W2 x y) v redo = 5 ∧ moveG (W2 x y) v redo = W2 x y := by
  have h' : (W2 x y).pd.on = true := h
  have he : moveE (W2 x y) v redo = 5 := by unfold moveE; rw [if_pos h']
  exact ⟨he, by unfold moveG; rw [he, if_neg (by decide)]⟩
theorem move_3 {x x2 : Rt} (h : rtC x2 = rZ) : moveE (W3 x x2) 0 false = 0 := by
  have hp : x2.p = 0 := congrArg RC.p h
  unfold moveE W3 wt0
  simp [hp]
theorem move_4 {x : Rt} (h : rtC x = rM) : moveE (W4 x) (-1) false = 0 := by
  have hp : x.p = -1 := congrArg RC.p h
  unfold moveE W4 wt0
  simp [hp]
theorem fs_100 {y : Wt} (h : waitBC (wtC y) = true) : y.ss.length ≤ 1000000000 ∧ y.cs.length ≤ 1000000000 ∧ (∀ m ∈ y.ss, m.fs.length ≤ 1000000000) := by
  unfold waitBC wtC at h
  simp only [Bool.and_eq_true, decide_eq_true_eq, Bool.not_eq_true', List.any_eq_false, List.length_map] at h
  obtain ⟨_, _, _, h4, h5, h6, _⟩ := h
  refine ⟨by omega, by omega, fun m hm => ?_⟩
  have := h6 (stC m) (List.mem_map.2 ⟨m, hm, rfl⟩)
  unfold badSC stC rightT at this
  simp only [Bool.or_eq_true, Bool.not_eq_true', not_or, Bool.not_eq_false, Bool.and_eq_true, decide_eq_true_eq] at this
  omega
theorem lxb_2 (x : Rt) (y : Wt) : LxB (W2 x y) := ⟨by show 1 ≤ 2000; decide, by show 1 ≤ 2000; decide, by show 0 ≤ 2000; decide, by show (0 : Int) ≤ 1; decide, by show (1 : Int) ≤ 2000; decide⟩
theorem lxb_0 : LxB g0 := ⟨by decide, by decide, by decide, by decide, by decide⟩
def DoneR (w : World) (lb : Nat) (r : RC) (G : Rt → Lx) (e : Ending) (w' : World) : Prop := ∃ x : Rt, rtC x = r ∧ Done w lb 0 (G x) e w'
def DoneW (w : World) (lb : Nat) (r : WC) (G : Wt → Lx) (e : Ending) (w' : World) : Prop := ∃ y : Wt, (y.on = true ∧ wtC y = r) ∧ Done w lb 0 (G y) e w'
def DoneS (w : World) (lb : Nat) (e : Ending) (w' : World) : Prop := ∃ G, Done w lb 0 G e w'
theorem AddP.yes {w w' : World} {lb : Nat} {E : Int} {G G' : Lx} {e : Ending} (h : AddP w lb E G e w') (hE : E = 0) (hG : G.cnt = G') : Done w lb 0 G' e w' := by
  unfold AddP at h
  subst hE
  rw [if_pos rfl, hG] at h
  exact h
theorem AddP.no {w w' : World} {lb : Nat} {E : Int} {G G' : Lx} {e : Ending} (h : AddP w lb E G e w') (hE : E = 5) (hG : G = G') : Done w lb 5 G' e w' := by
  unfold AddP at h
  subst hE
  rw [if_neg (by decide), hG] at h
  exact h
section
variable {w : World} {lb : Nat} {A : LA} {x x2 : Rt} {y : Wt}
theorem st_drop0 (h : LogX w lb g0 A) (a : Option Addr) (c : Nat) (hv : Vw w a ([4] : List UInt8).length c 1 (bvs [4])) : Calls Tryz.prog 21 #[.pointer (some ⟨lb, 0, none⟩), .slice a ([4] : List UInt8).length c] w (Done w lb 5 g0) :=
  (addDropX h a c (by decide) (by decide) hv).mono (fun e w' hh => hh.no rfl rfl)
theorem st_root1 (h : LogX w lb g0 A) (a : Option Addr) (c : Nat) (hv : Vw w a (rootGC rM).length c 1 (bvs (rootGC rM))) : Calls Tryz.prog 21 #[.pointer (some ⟨lb, 0, none⟩), .slice a (rootGC rM).length c] w (DoneR w lb rM W1) :=
  (addRootK h rM rM_ok.2.2 (by decide) (by decide) lxb_0 a c (by decide) (by decide) hv).mono (fun e w' ⟨x, hx, hh⟩ => ⟨x, hx, hh.yes (add_1 hx).1 (add_1 hx).2⟩)
theorem st_wait2 (h : LogX w lb (W1 x) A) (r : WC) (hr : waitBC r = true) (hl : (waitGC r).length ≤ 70000000) (a : Option Addr) (c : Nat) (hv : Vw w a (waitGC r).length c 1 (bvs (waitGC r))) :
    Calls Tryz.prog 21 #[.pointer (some ⟨lb, 0, none⟩), .slice a (waitGC r).length c] w (DoneW w lb r (W2 x)) :=
  (addWaitK h r hr hl a c (show (0 : Int) ≤ 1 by decide) (show (1 : Int) ≤ 100000 by decide) hv).mono (fun e w' ⟨y, hon, hy, hh⟩ => ⟨y, ⟨hon, hy⟩, hh.yes rfl rfl⟩)
theorem st_move2 (h : LogX w lb (W2 x y) A) (hon : y.on = true) (a : Option Addr) (c : Nat) (hv : Vw w a (moveL (-1) false).length c 1 (bvs (moveL (-1) false))) :
    Calls Tryz.prog 21 #[.pointer (some ⟨lb, 0, none⟩), .slice a (moveL (-1) false).length c] w (Done w lb 5 (W2 x y)) :=
  (addMoveK h (-1) false (by decide) (by decide) (show (0 : Int) ≤ 1 by decide) (show (1 : Int) ≤ 2000 by decide) (show (1 : Int) ≤ ((1 : Nat) : Int) by decide) (show 0 ≤ 100000 by decide) a c (show (0 : Int) ≤ 2 by decide) (show (2 : Int) ≤ 100000 by decide) hv).mono (fun e w' hh => hh.no (move_2 hon _ _).1 (move_2 hon _ _).2)
theorem st_root3 (h : LogX w lb (W2 x y) A) (a : Option Addr) (c : Nat) (hv : Vw w a (rootGC rZ).length c 1 (bvs (rootGC rZ))) : Calls Tryz.prog 21 #[.pointer (some ⟨lb, 0, none⟩), .slice a (rootGC rZ).length c] w (DoneR w lb rZ (W3 x)) :=
  (addRootK h rZ rZ_ok.2.2 (by decide) (by decide) (lxb_2 x y) a c (show (0 : Int) ≤ 2 by decide) (show (2 : Int) ≤ 100000 by decide) hv).mono (fun e w' ⟨x2, hx, hh⟩ => ⟨x2, hx, hh.yes (add_2 hx).1 (add_2 hx).2⟩)
theorem st_drop3 (h : LogX w lb (W2 x y) A) (hon : y.on = true) (a : Option Addr) (c : Nat) (hv : Vw w a ([4] : List UInt8).length c 1 (bvs [4])) : Calls Tryz.prog 21 #[.pointer (some ⟨lb, 0, none⟩), .slice a ([4] : List UInt8).length c] w (Done w lb 0 (W4 x)) :=
  (addDropX h a c (show (0 : Int) ≤ 2 by decide) (show (2 : Int) ≤ 100000 by decide) hv).mono (fun e w' hh => hh.yes (drop_2 hon).1 (drop_2 hon).2)
theorem st_move4 (h : LogX w lb (W3 x x2) A) (hx : rtC x2 = rZ) (a : Option Addr) (c : Nat) (hv : Vw w a (moveL 0 false).length c 1 (bvs (moveL 0 false))) :
    Calls Tryz.prog 21 #[.pointer (some ⟨lb, 0, none⟩), .slice a (moveL 0 false).length c] w (DoneS w lb) :=
  (addMoveK h 0 false (by decide) (by decide) (show (0 : Int) ≤ 2 by decide) (show (2 : Int) ≤ 2000 by decide) (show (2 : Int) ≤ ((2 : Nat) : Int) by decide) (show 0 ≤ 100000 by decide) a c (show (0 : Int) ≤ 3 by decide) (show (3 : Int) ≤ 100000 by decide) hv).mono (fun e w' hh => ⟨_, hh.yes (move_3 hx) rfl⟩)
theorem st_move5 (h : LogX w lb (W4 x) A) (hx : rtC x = rM) (a : Option Addr) (c : Nat) (hv : Vw w a (moveL (-1) false).length c 1 (bvs (moveL (-1) false))) :
    Calls Tryz.prog 21 #[.pointer (some ⟨lb, 0, none⟩), .slice a (moveL (-1) false).length c] w (DoneS w lb) :=
  (addMoveK h (-1) false (by decide) (by decide) (show (0 : Int) ≤ 1 by decide) (show (1 : Int) ≤ 2000 by decide) (show (1 : Int) ≤ ((1 : Nat) : Int) by decide) (show 0 ≤ 100000 by decide) a c (show (0 : Int) ≤ 3 by decide) (show (3 : Int) ≤ 100000 by decide) hv).mono (fun e w' hh => ⟨_, hh.yes (move_4 hx) rfl⟩)
end
/-- Where the law stands: what is kept between its records. -/
structure Wst (y1 w : World) (lb : Nat) (g : Lx) (A : LA) (a5 : Option Addr) (c5 : Nat) (l5 : List UInt8) (a6 : Option Addr) (c6 : Nat) (l6 : List UInt8) (a7 : Option Addr) (c7 : Nat) (l7 : List UInt8) : Prop where
  upd : Upd (fun _ => False) y1 w
  log : LogX w lb g A
  v5 : Vw w a5 l5.length c5 1 (bvs l5)
  v6 : Vw w a6 l6.length c6 1 (bvs l6)
  v7 : Vw w a7 l7.length c7 1 (bvs l7)
  k5 : ∀ g, blk a5 = some g → g ≠ lb
  k6 : ∀ g, blk a6 = some g → g ≠ lb
  k7 : ∀ g, blk a7 = some g → g ≠ lb
  n : y1.heap.size ≤ lb
section
variable {y1 w w' : World} {lb : Nat} {g g' : Lx} {A A' : LA} {a5 a6 a7 : Option Addr} {c5 c6 c7 : Nat} {l5 l6 l7 : List UInt8}
theorem Wst.same (h : Wst y1 w lb g A a5 c5 l5 a6 c6 l6 a7 c7 l7) (hU : Upd (fun _ => False) w w') : Wst y1 w' lb g A a5 c5 l5 a6 c6 l6 a7 c7 l7 :=
  ⟨h.upd.trans hU, h.log.other hU, h.v5.upd hU (fun _ _ h => h), h.v6.upd hU (fun _ _ h => h), h.v7.upd hU (fun _ _ h => h), h.k5, h.k6, h.k7, h.n⟩
theorem Wst.put (h : Wst y1 w lb g A a5 c5 l5 a6 c6 l6 a7 c7 l7) (hL : LogX w' lb g' A') (hU : Upd (fun q => q = lb) w w') : Wst y1 w' lb g' A' a5 c5 l5 a6 c6 l6 a7 c7 l7 :=
  ⟨h.upd.next hU (fun i hi e => by have := h.n; omega), hL, h.v5.upd hU (fun g hg e => h.k5 g hg e), h.v6.upd hU (fun g hg e => h.k6 g hg e), h.v7.upd hU (fun g hg e => h.k7 g hg e), h.k5, h.k6, h.k7, h.n⟩
end
end Go.Proofs.YtccejkikphpnfaaGreatDoor
