
/- A move's record is read. -/
import Derived.Test.YtccejkikphpnfaaGreatDoorMet13
import Derived.Test.YtccejkikphpnfaaGreatDoorMetT
namespace Go.Proofs.YtccejkikphpnfaaGreatDoor
set_option linter.unusedSimpArgs false
set_option linter.unusedVariables false
set_option maxRecDepth 100000
open Go.ChangeShapes Go.WideShapes Go.ChangeAt Go.RowKit

/-- In the middle of reading a move. -/
structure MM (w : World) (br BR L2 lb : Nat) (F : Option Nat) (l : List UInt8) (o1 o2 : Option Nat) (v1 : Int) (v2 : Bool) (wk : World) : Prop where
  rd : Rd wk br F l 0
  row : wk.heap[BR]? = some (.cells #[.pointer (some ⟨br, 0, none⟩)] 139)
  l2 : wk.heap[L2]? = some (.cells #[.pointer (some ⟨lb, 0, none⟩)] 42)
  b1 : ∀ b, o1 = some b → wk.heap[b]? = some (.cells #[.int .i64 v1] 3) ∧ BR < b
  b2 : ∀ b, o2 = some b → wk.heap[b]? = some (.cells #[.bool v2] 4) ∧ BR < b
  ne : ∀ x y, o1 = some x → o2 = some y → x ≠ y
  upd : Upd (fun _ => False) w wk
  n1 : br < BR
  n2 : L2 < br
  n3 : ∀ g, F = some g → L2 < g ∧ g < BR
  n4 : w.heap.size ≤ L2
section
variable {w : World} {br BR L2 lb : Nat} {F : Option Nat} {l l' : List UInt8} {o1 o2 : Option Nat} {v1 : Int} {v2 : Bool} {wk w' : World}
theorem MM.q (h : MM w br BR L2 lb F l o1 o2 v1 v2 wk) : wk.cell? ⟨BR, 0, none⟩ = some (.pointer (some ⟨br, 0, none⟩)) := by rw [cell_of_row _ _ _ _ _ _ h.row]; rfl
theorem MM.read (h : MM w br BR L2 lb F l o1 o2 v1 v2 wk) (hR : Rd w' br F l' 0) (hU : Upd (fun k => k = br) wk w') : MM w br BR L2 lb F l' o1 o2 v1 v2 w' := by
  have h1 := h.n1; have h2 := h.n2; have h4 := h.n4
  exact ⟨hR, (hU.block BR (lt_of_heap h.row) (by omega)).trans h.row, (hU.block L2 (lt_of_heap h.l2) (by omega)).trans h.l2,
    fun b hb => ⟨(hU.block b (lt_of_heap (h.b1 b hb).1) (by have := (h.b1 b hb).2; omega)).trans (h.b1 b hb).1, (h.b1 b hb).2⟩,
    fun b hb => ⟨(hU.block b (lt_of_heap (h.b2 b hb).1) (by have := (h.b2 b hb).2; omega)).trans (h.b2 b hb).1, (h.b2 b hb).2⟩, h.ne, h.upd.next hU (fun i hi e => by omega), h1, h2, h.n3, h4⟩
theorem MM.same (h : MM w br BR L2 lb F l o1 o2 v1 v2 wk) (hU : Upd (fun _ => False) wk w') : MM w br BR L2 lb F l o1 o2 v1 v2 w' :=
  h.read (h.rd.upd hU (fun h => h) (fun _ _ h => h)) (hU.mono (fun _ _ h => h.elim))
theorem MM.al1 (h : MM w br BR L2 lb F l none o2 v1 v2 wk) : MM w br BR L2 lb F l (some wk.heap.size) o2 0 v2 (wk.alloc (.cells #[.int .i64 0] 3)) := by
  have hs := h.same (Upd.alloc (fun _ => False) wk (.cells #[.int .i64 0] 3))
  exact ⟨hs.rd, hs.row, hs.l2, fun b hb => by cases hb; exact ⟨heap_alloc_new _ _, lt_of_heap h.row⟩, hs.b2, fun x y hx hy => by cases hx; have := lt_of_heap (h.b2 y hy).1; omega, hs.upd, h.n1, h.n2, h.n3, h.n4⟩
theorem MM.al2 (h : MM w br BR L2 lb F l o1 none v1 v2 wk) : MM w br BR L2 lb F l o1 (some wk.heap.size) v1 false (wk.alloc (.cells #[.bool false] 4)) := by
  have hs := h.same (Upd.alloc (fun _ => False) wk (.cells #[.bool false] 4))
  exact ⟨hs.rd, hs.row, hs.l2, hs.b1, fun b hb => by cases hb; exact ⟨heap_alloc_new _ _, lt_of_heap h.row⟩, fun x y hx hy => by cases hy; have := lt_of_heap (h.b1 x hx).1; omega, hs.upd, h.n1, h.n2, h.n3, h.n4⟩
theorem MM.set (h : MM w br BR L2 lb F l o1 o2 v1 v2 wk) (b : Nat) (u : Value) (hb : BR < b) (h1 : ∀ x, o1 = some x → x ≠ b) (h2 : ∀ x, o2 = some x → x ≠ b) : MM w br BR L2 lb F l o1 o2 v1 v2 (wk.setCell ⟨b, 0, none⟩ u) := by
  have hU := Upd.setCell (S := fun k => k = b) wk (p := ⟨b, 0, none⟩) rfl u
  have n1 := h.n1; have n2 := h.n2; have n4 := h.n4
  exact ⟨h.rd.upd hU (by omega) (fun g hg e => by have := h.n3 g hg; omega), (hU.block BR (lt_of_heap h.row) (by omega)).trans h.row, (hU.block L2 (lt_of_heap h.l2) (by omega)).trans h.l2,
    fun x hx => ⟨(hU.block x (lt_of_heap (h.b1 x hx).1) (h1 x hx)).trans (h.b1 x hx).1, (h.b1 x hx).2⟩, fun x hx => ⟨(hU.block x (lt_of_heap (h.b2 x hx).1) (h2 x hx)).trans (h.b2 x hx).1, (h.b2 x hx).2⟩, h.ne, h.upd.next hU (fun i hi e => by omega), n1, n2, h.n3, n4⟩
variable {d1 d2 : Nat}
theorem MM.c1 (h : MM w br BR L2 lb F l (some d1) o2 v1 v2 wk) : wk.cell? ⟨d1, 0, none⟩ = some (.int .i64 v1) := by rw [cell_of_row _ _ _ _ _ _ (h.b1 d1 rfl).1]; rfl
theorem MM.c2 (h : MM w br BR L2 lb F l o1 (some d2) v1 v2 wk) : wk.cell? ⟨d2, 0, none⟩ = some (.bool v2) := by rw [cell_of_row _ _ _ _ _ _ (h.b2 d2 rfl).1]; rfl
theorem MM.f1 (h : MM w br BR L2 lb F l (some d1) o2 v1 v2 wk) : wk.frozen? ⟨d1, 0, none⟩ = false := free_row (h.b1 d1 rfl).1
theorem MM.f2 (h : MM w br BR L2 lb F l o1 (some d2) v1 v2 wk) : wk.frozen? ⟨d2, 0, none⟩ = false := free_row (h.b2 d2 rfl).1
theorem MM.no1 (h : MM w br BR L2 lb F l o1 o2 v1 v2 wk) (v : Int) : MM w br BR L2 lb F l none o2 v v2 wk :=
  ⟨h.rd, h.row, h.l2, (fun b hb => by cases hb), h.b2, (fun x y hx hy => by cases hx), h.upd, h.n1, h.n2, h.n3, h.n4⟩
theorem MM.no2 (h : MM w br BR L2 lb F l o1 o2 v1 v2 wk) (v : Bool) : MM w br BR L2 lb F l o1 none v1 v wk :=
  ⟨h.rd, h.row, h.l2, h.b1, (fun b hb => by cases hb), (fun x y hx hy => by cases hy), h.upd, h.n1, h.n2, h.n3, h.n4⟩
theorem MM.st1 (h : MM w br BR L2 lb F l (some d1) o2 v1 v2 wk) (v : Int) : MM w br BR L2 lb F l (some d1) o2 v v2 (wk.setCell ⟨d1, 0, none⟩ (.int .i64 v)) := by
  have hs := (h.no1 v).set d1 (.int .i64 v) (h.b1 d1 rfl).2 (fun x hx => by cases hx) (fun x hx e => h.ne d1 x rfl hx e.symm)
  have hr := setCell_heap 0 (.int .i64 v) (h.b1 d1 rfl).1
  exact ⟨hs.rd, hs.row, hs.l2, fun b hb => by cases hb; exact ⟨by simpa using hr, (h.b1 d1 rfl).2⟩, hs.b2, h.ne, hs.upd, h.n1, h.n2, h.n3, h.n4⟩
theorem MM.st2 (h : MM w br BR L2 lb F l o1 (some d2) v1 v2 wk) (v : Bool) : MM w br BR L2 lb F l o1 (some d2) v1 v (wk.setCell ⟨d2, 0, none⟩ (.bool v)) := by
  have hs := (h.no2 v).set d2 (.bool v) (h.b2 d2 rfl).2 (fun x hx => h.ne x d2 hx rfl) (fun x hx => by cases hx)
  have hr := setCell_heap 0 (.bool v) (h.b2 d2 rfl).1
  exact ⟨hs.rd, hs.row, hs.l2, hs.b1, fun b hb => by cases hb; exact ⟨by simpa using hr, (h.b2 d2 rfl).2⟩, h.ne, hs.upd, h.n1, h.n2, h.n3, h.n4⟩
end

def ReadMove (w : World) (lb : Nat) (v : Int) (redo : Bool) (e : Ending) (w' : World) : Prop :=
  ∃ L2 c1 c2, e = .returned (.tuple #[.func (.func 100) #[] #[.pointer (some ⟨L2, 0, none⟩), .pointer (some ⟨c1, 0, none⟩), .pointer (some ⟨c2, 0, none⟩)], .int .i64 0]) ∧ w'.heap[L2]? = some (.cells #[.pointer (some ⟨lb, 0, none⟩)] 42) ∧
    w'.heap[c1]? = some (.cells #[.int .i64 v] 3) ∧ w'.heap[c2]? = some (.cells #[.bool redo] 4) ∧ Upd (fun _ => False) w w'
set_option maxHeartbeats 16000000 in
theorem read_move (lb : Nat) (v : Int) (redo : Bool) (h0 : -1 ≤ v) (h1 : v < 100000) (a : Option Addr) (c : Nat) (w : World) (hv : Vw w a (moveL v redo).length c 1 (bvs (moveL v redo))) :
    Calls Tryz.prog 57 #[.pointer (some ⟨lb, 0, none⟩), .slice a (moveL v redo).length c] w (ReadMove w lb v redo) := by
  have hLr : moveL v redo = [2] ++ (i4 v ++ b1 redo) := List.append_assoc _ _ _
  have hll : (moveL v redo).length ≤ 6 := by rw [hLr]; simp [i4_length, b1]
  have hU0 := Upd.alloc (fun _ => False) w (.cells #[.pointer (some ⟨lb, 0, none⟩)] 42)
  have hb0 := heap_alloc_new w (.cells #[.pointer (some ⟨lb, 0, none⟩)] 42)
  have HI0 := Lib.hid hv
  have HI := Lib.hid (And.intro (hv.upd hU0 (fun _ _ h => h)) (And.intro hb0 hU0))
  have HLr := Lib.hid hLr
  have HPM := Lib.hid (fun w' => mPackMove_any v redo w')
  generalize hLL : moveL v redo = l at *
  clear hv hU0 hb0 hLr hLL
  go_enter Tryz.func57, Tryz.ntmps57
  go_upto_region 1 with (fail)
  generalize w.alloc (.cells #[.pointer (some ⟨lb, 0, none⟩)] 42) = y0 at *
  obtain ⟨L2, hL2⟩ : ∃ B, w.heap.size = B := ⟨_, rfl⟩
  rw [hL2] at HI ⊢
  have HB := Lib.hid hL2
  clear hL2
  go_wp2_with fail
  refine (read_any3 a c l y0 HI.out.1 (by omega)).mono ?_
  rintro e w1 ⟨br, F, rfl, hR, hU, hbr, hF⟩
  obtain ⟨BR, hBR⟩ : ∃ B, w1.heap.size = B := ⟨_, rfl⟩
  have hbrl : br < BR := by
    obtain ⟨a9, c9, hh, _⟩ := hR.ex
    rw [← hBR]
    exact lt_of_heap hh
  have hUn := Upd.alloc (fun _ => False) w1 (.cells #[.pointer (some ⟨br, 0, none⟩)] 139)
  have hrow := heap_alloc_new w1 (.cells #[.pointer (some ⟨br, 0, none⟩)] 139)
  have hltL := lt_of_heap HI.out.2.1
  have hB0 := HB.out
  rw [hBR] at hrow
  have HM0 : Hid (MM w br BR L2 lb F l none none 0 false (w1.alloc (.cells #[.pointer (some ⟨br, 0, none⟩)] 139))) := Lib.hid
    ⟨hR.upd hUn (fun h => h) (fun _ _ h => h), hrow, ((hU.trans hUn).block L2 hltL (fun h => h)).trans HI.out.2.1, (fun b hb => by cases hb), (fun b hb => by cases hb), (fun x y hx hy => by cases hx), HI.out.2.2.trans (hU.trans hUn), hbrl, by omega,
      (fun g hg => by have := hF g hg; omega), by omega⟩
  have hnum := rnum_any br F ⟨l, 0⟩ 1 _ HM0.out.rd (by show l.length ≤ _; omega)
  have hlt : takeS (heldN 1) ⟨l, 0⟩ = ([2], ⟨i4 v ++ b1 redo, 0⟩) := by rw [HLr.out]; exact takeS_app' 1 [2] _ rfl
  rw [hlt] at hnum
  have hln : (leN [2] : Int) = 2 := rfl
  unfold ReadN at hnum
  dsimp only at hnum
  rw [hln] at hnum
  have HN1 : Hid (∀ wk, Rd wk br F (i4 v ++ b1 redo) 0 → Calls Tryz.prog 98 #[.pointer (some ⟨br, 0, none⟩)] wk fun e w' => e = .returned (.int .i64 v) ∧ Rd w' br F (b1 redo) 0 ∧ Upd (fun k => k = br) wk w') := Lib.hid (fun wk h => rint_i4 br F v (b1 redo) wk h (by simp [i4_length, b1]) h0 h1)
  have HN2 : Hid (∀ wk, Rd wk br F (b1 redo) 0 → Calls Tryz.prog 99 #[.pointer (some ⟨br, 0, none⟩)] wk fun e w' => e = .returned (.bool redo) ∧ Rd w' br F [] 0 ∧ Upd (fun k => k = br) wk w') := Lib.hid (fun wk h => by
    have hb := rbool_any br F ⟨b1 redo, 0⟩ wk h (by simp [b1])
    have e := boolS_b1 redo []
    rw [List.append_nil] at e
    rw [e] at hb
    exact hb)
  clear hR hU hbr hF hbrl hUn hrow hltL hlt hln hB0 HI HB
  go_upto_region 5 with (fail)
  generalize w1.alloc (.cells #[.pointer (some ⟨br, 0, none⟩)] 139) = w2 at *
  clear hBR
  have q := HM0.out.q
  go_wp2_with fail
  refine hnum.mono ?_
  rintro e w3 ⟨rfl, hR, hU⟩
  have HM1 := Lib.hid (HM0.out.read hR hU)
  clear hR hU q HM0 hnum
  go_upto_region 11 with (fail)
  go_cut [11, 12] (fun s11 s12 wx => ∃ c1 c2, s11 = .pointer (some ⟨c1, 0, none⟩) ∧ s12 = .pointer (some ⟨c2, 0, none⟩) ∧ Hid (MM w br BR L2 lb F [] (some c1) (some c2) v redo wx))
  case first =>
    have hqd := (HM1.out.same (Upd.drew _ _)).q
    refine wp_region_tri (.three [0, 1, 3, 4] 2 (.three [] 5 (.two [] 6 (.one [] 7 (.one [] 8 (.one [] 9 (.last [])))) 7 (.one [] 6 (.one [] 8 (.one [] 9 (.last []))))) 6 (.two [] 5 (.one [] 7 (.one [] 8 (.one [] 9 (.last [])))) 7 (.one [] 5 (.one [] 8 (.one [] 9 (.last []))))) 7 (.two [] 5 (.one [] 6 (.one [] 8 (.one [] 9 (.last [])))) 6 (.one [] 5 (.one [] 8 (.one [] 9 (.last [])))))) 6 (.two [] 2 (.two [] 5 (.one [] 7 (.one [] 8 (.one [] 9 (.last [])))) 7 (.one [] 5 (.one [] 8 (.one [] 9 (.last []))))) 7 (.one [] 2 (.one [] 5 (.one [] 8 (.one [] 9 (.last [])))))) 7 (.two [] 2 (.two [] 5 (.one [] 6 (.one [] 8 (.one [] 9 (.last [])))) 6 (.one [] 5 (.one [] 8 (.one [] 9 (.last []))))) 6 (.one [] 2 (.one [] 5 (.one [] 8 (.one [] 9 (.last []))))))) (fun w' => w'.cell? ⟨BR, 0, none⟩ = some (.pointer (some ⟨br, 0, none⟩))) (by kernel_rfl) (by kernel_rfl) hqd ?_
    iterate 4
      refine tri_take3 (v := ?_) rfl rfl (fun w' hS => ?_) ?_
      rotate_left
      · skip
        go_simp; try with_reducible rfl
      simp only [Act.put, List.getElem_toArray, List.getElem_cons_zero, List.getElem_cons_succ, List.setIfInBounds_toArray, List.set_cons_zero, List.set_cons_succ]
    have HM := Lib.hid (HM1.out.same (Upd.drew (fun _ => False) w3))
    clear hqd HM1
    generalize w3.drew = x0 at *
    refine tri_all ?_ ?_ ?_
    · refine tri_act rfl (fun K2 hK2 => ?_)
      go_wp2_with fail
      refine (HN1.out _ HM.out.rd).mono ?_
      rintro e x1 ⟨rfl, hR, hU⟩
      have HMa := Lib.hid (HM.out.read hR hU)
      clear hR hU HM
      have HM := HMa
      clear HMa
      have hq := HM.out.q
      go_wp2_with fail
      refine hK2.out _ _ hq ?_
      clear hq
      refine tri_all ?_ ?_ ?_
      · refine tri_act rfl (fun K5 hK5 => ?_)
        go_wp2_with fail
        refine (HN2.out _ HM.out.rd).mono ?_
        rintro e x2 ⟨rfl, hR, hU⟩
        have HMa := Lib.hid (HM.out.read hR hU)
        clear hR hU HM
        have HM := HMa
        clear HMa
        have hq := HM.out.q
        go_wp2_with fail
        refine hK5.out _ _ hq ?_
        clear hq
        refine tri_both ?_ ?_
        · refine tri_act rfl (fun K6 hK6 => ?_)
          have HMa := Lib.hid (HM.out.al1)
          clear HM
          have HM := HMa
          clear HMa
          have hq := HM.out.q
          go_wp2_with fail
          refine hK6.out _ _ hq ?_
          clear hq
          generalize x2.alloc (.cells #[.int .i64 0] 3) = x3 at *
          generalize x2.heap.size = c1 at *
          refine tri_act rfl (fun K7 hK7 => ?_)
          have HMa := Lib.hid (HM.out.al2)
          clear HM
          have HM := HMa
          clear HMa
          have hq := HM.out.q
          go_wp2_with fail
          refine hK7.out _ _ hq ?_
          clear hq
          generalize x3.alloc (.cells #[.bool false] 4) = x4 at *
          generalize x3.heap.size = c2 at *
          refine tri_act rfl (fun K8 hK8 => ?_)
          have hc := HM.out.c1
          have hf := HM.out.f1
          have HMa := Lib.hid (HM.out.st1 v)
          have hq := HMa.out.q
          go_wp2_with fail
          refine hK8.out _ _ hq ?_
          clear hq hc hf HM
          generalize x4.setCell ⟨c1, 0, none⟩ (.int .i64 v) = x8 at *
          refine tri_act rfl (fun K9 hK9 => ?_)
          have hc := HMa.out.c2
          have hf := HMa.out.f2
          have HMb := Lib.hid (HMa.out.st2 redo)
          have hq := HMb.out.q
          go_wp2_with fail
          refine hK9.out _ _ hq ?_
          refine tri_end ?_
          clear hq hc hf HMa
          generalize x8.setCell ⟨c2, 0, none⟩ (.bool redo) = x9 at *
          go_wp2_with fail
          go_meet
          case rel => exact ⟨c1, c2, rfl, rfl, HMb⟩
        · refine tri_act rfl (fun K7 hK7 => ?_)
          have HMa := Lib.hid (HM.out.al2)
          clear HM
          have HM := HMa
          clear HMa
          have hq := HM.out.q
          go_wp2_with fail
          refine hK7.out _ _ hq ?_
          clear hq
          generalize x2.alloc (.cells #[.bool false] 4) = x3 at *
          generalize x2.heap.size = c2 at *
          refine tri_act rfl (fun K6 hK6 => ?_)
          have HMa := Lib.hid (HM.out.al1)
          clear HM
          have HM := HMa
          clear HMa
          have hq := HM.out.q
          go_wp2_with fail
          refine hK6.out _ _ hq ?_
          clear hq
          generalize x3.alloc (.cells #[.int .i64 0] 3) = x4 at *
          generalize x3.heap.size = c1 at *
          refine tri_act rfl (fun K8 hK8 => ?_)
          have hc := HM.out.c1
          have hf := HM.out.f1
          have HMa := Lib.hid (HM.out.st1 v)
          have hq := HMa.out.q
          go_wp2_with fail
          refine hK8.out _ _ hq ?_
          clear hq hc hf HM
          generalize x4.setCell ⟨c1, 0, none⟩ (.int .i64 v) = x8 at *
          refine tri_act rfl (fun K9 hK9 => ?_)
          have hc := HMa.out.c2
          have hf := HMa.out.f2
          have HMb := Lib.hid (HMa.out.st2 redo)
          have hq := HMb.out.q
          go_wp2_with fail
          refine hK9.out _ _ hq ?_
          refine tri_end ?_
          clear hq hc hf HMa
          generalize x8.setCell ⟨c2, 0, none⟩ (.bool redo) = x9 at *
          go_wp2_with fail
          go_meet
          case rel => exact ⟨c1, c2, rfl, rfl, HMb⟩
      · refine tri_act rfl (fun K6 hK6 => ?_)
        have HMa := Lib.hid (HM.out.al1)
        clear HM
        have HM := HMa
        clear HMa
        have hq := HM.out.q
        go_wp2_with fail
        refine hK6.out _ _ hq ?_
        clear hq
        generalize x1.alloc (.cells #[.int .i64 0] 3) = x2 at *
        generalize x1.heap.size = c1 at *
        refine tri_both ?_ ?_
        · refine tri_act rfl (fun K5 hK5 => ?_)
          go_wp2_with fail
          refine (HN2.out _ HM.out.rd).mono ?_
          rintro e x3 ⟨rfl, hR, hU⟩
          have HMa := Lib.hid (HM.out.read hR hU)
          clear hR hU HM
          have HM := HMa
          clear HMa
          have hq := HM.out.q
          go_wp2_with fail
          refine hK5.out _ _ hq ?_
          clear hq
          refine tri_act rfl (fun K7 hK7 => ?_)
          have HMa := Lib.hid (HM.out.al2)
          clear HM
          have HM := HMa
          clear HMa
          have hq := HM.out.q
          go_wp2_with fail
          refine hK7.out _ _ hq ?_
          clear hq
          generalize x3.alloc (.cells #[.bool false] 4) = x4 at *
          generalize x3.heap.size = c2 at *
          refine tri_act rfl (fun K8 hK8 => ?_)
          have hc := HM.out.c1
          have hf := HM.out.f1
          have HMa := Lib.hid (HM.out.st1 v)
          have hq := HMa.out.q
          go_wp2_with fail
          refine hK8.out _ _ hq ?_
          clear hq hc hf HM
          generalize x4.setCell ⟨c1, 0, none⟩ (.int .i64 v) = x8 at *
          refine tri_act rfl (fun K9 hK9 => ?_)
          have hc := HMa.out.c2
          have hf := HMa.out.f2
          have HMb := Lib.hid (HMa.out.st2 redo)
          have hq := HMb.out.q
          go_wp2_with fail
          refine hK9.out _ _ hq ?_
          refine tri_end ?_
          clear hq hc hf HMa
          generalize x8.setCell ⟨c2, 0, none⟩ (.bool redo) = x9 at *
          go_wp2_with fail
          go_meet
          case rel => exact ⟨c1, c2, rfl, rfl, HMb⟩
        · refine tri_act rfl (fun K7 hK7 => ?_)
          have HMa := Lib.hid (HM.out.al2)
          clear HM
          have HM := HMa
          clear HMa
          have hq := HM.out.q
          go_wp2_with fail
          refine hK7.out _ _ hq ?_
          clear hq
          generalize x2.alloc (.cells #[.bool false] 4) = x3 at *
          generalize x2.heap.size = c2 at *
          refine tri_act rfl (fun K5 hK5 => ?_)
          go_wp2_with fail
          refine (HN2.out _ HM.out.rd).mono ?_
          rintro e x4 ⟨rfl, hR, hU⟩
          have HMa := Lib.hid (HM.out.read hR hU)
          clear hR hU HM
          have HM := HMa
          clear HMa
          have hq := HM.out.q
          go_wp2_with fail
          refine hK5.out _ _ hq ?_
          clear hq
          refine tri_act rfl (fun K8 hK8 => ?_)
          have hc := HM.out.c1
          have hf := HM.out.f1
          have HMa := Lib.hid (HM.out.st1 v)
          have hq := HMa.out.q
          go_wp2_with fail
          refine hK8.out _ _ hq ?_
          clear hq hc hf HM
          generalize x4.setCell ⟨c1, 0, none⟩ (.int .i64 v) = x8 at *
          refine tri_act rfl (fun K9 hK9 => ?_)
          have hc := HMa.out.c2
          have hf := HMa.out.f2
          have HMb := Lib.hid (HMa.out.st2 redo)
          have hq := HMb.out.q
          go_wp2_with fail
          refine hK9.out _ _ hq ?_
          refine tri_end ?_
          clear hq hc hf HMa
          generalize x8.setCell ⟨c2, 0, none⟩ (.bool redo) = x9 at *
          go_wp2_with fail
          go_meet
          case rel => exact ⟨c1, c2, rfl, rfl, HMb⟩
      · refine tri_act rfl (fun K7 hK7 => ?_)
        have HMa := Lib.hid (HM.out.al2)
        clear HM
        have HM := HMa
        clear HMa
        have hq := HM.out.q
        go_wp2_with fail
        refine hK7.out _ _ hq ?_
        clear hq
        generalize x1.alloc (.cells #[.bool false] 4) = x2 at *
        generalize x1.heap.size = c2 at *
        refine tri_both ?_ ?_
        · refine tri_act rfl (fun K5 hK5 => ?_)
          go_wp2_with fail
          refine (HN2.out _ HM.out.rd).mono ?_
          rintro e x3 ⟨rfl, hR, hU⟩
          have HMa := Lib.hid (HM.out.read hR hU)
          clear hR hU HM
          have HM := HMa
          clear HMa
          have hq := HM.out.q
          go_wp2_with fail
          refine hK5.out _ _ hq ?_
          clear hq
          refine tri_act rfl (fun K6 hK6 => ?_)
          have HMa := Lib.hid (HM.out.al1)
          clear HM
          have HM := HMa
          clear HMa
          have hq := HM.out.q
          go_wp2_with fail
          refine hK6.out _ _ hq ?_
          clear hq
          generalize x3.alloc (.cells #[.int .i64 0] 3) = x4 at *
          generalize x3.heap.size = c1 at *
          refine tri_act rfl (fun K8 hK8 => ?_)
          have hc := HM.out.c1
          have hf := HM.out.f1
          have HMa := Lib.hid (HM.out.st1 v)
          have hq := HMa.out.q
          go_wp2_with fail
          refine hK8.out _ _ hq ?_
          clear hq hc hf HM
          generalize x4.setCell ⟨c1, 0, none⟩ (.int .i64 v) = x8 at *
          refine tri_act rfl (fun K9 hK9 => ?_)
          have hc := HMa.out.c2
          have hf := HMa.out.f2
          have HMb := Lib.hid (HMa.out.st2 redo)
          have hq := HMb.out.q
          go_wp2_with fail
          refine hK9.out _ _ hq ?_
          refine tri_end ?_
          clear hq hc hf HMa
          generalize x8.setCell ⟨c2, 0, none⟩ (.bool redo) = x9 at *
          go_wp2_with fail
          go_meet
          case rel => exact ⟨c1, c2, rfl, rfl, HMb⟩
        · refine tri_act rfl (fun K6 hK6 => ?_)
          have HMa := Lib.hid (HM.out.al1)
          clear HM
          have HM := HMa
          clear HMa
          have hq := HM.out.q
          go_wp2_with fail
          refine hK6.out _ _ hq ?_
          clear hq
          generalize x2.alloc (.cells #[.int .i64 0] 3) = x3 at *
          generalize x2.heap.size = c1 at *
          refine tri_act rfl (fun K5 hK5 => ?_)
          go_wp2_with fail
          refine (HN2.out _ HM.out.rd).mono ?_
          rintro e x4 ⟨rfl, hR, hU⟩
          have HMa := Lib.hid (HM.out.read hR hU)
          clear hR hU HM
          have HM := HMa
          clear HMa
          have hq := HM.out.q
          go_wp2_with fail
          refine hK5.out _ _ hq ?_
          clear hq
          refine tri_act rfl (fun K8 hK8 => ?_)
          have hc := HM.out.c1
          have hf := HM.out.f1
          have HMa := Lib.hid (HM.out.st1 v)
          have hq := HMa.out.q
          go_wp2_with fail
          refine hK8.out _ _ hq ?_
          clear hq hc hf HM
          generalize x4.setCell ⟨c1, 0, none⟩ (.int .i64 v) = x8 at *
          refine tri_act rfl (fun K9 hK9 => ?_)
          have hc := HMa.out.c2
          have hf := HMa.out.f2
          have HMb := Lib.hid (HMa.out.st2 redo)
          have hq := HMb.out.q
          go_wp2_with fail
          refine hK9.out _ _ hq ?_
          refine tri_end ?_
          clear hq hc hf HMa
          generalize x8.setCell ⟨c2, 0, none⟩ (.bool redo) = x9 at *
          go_wp2_with fail
          go_meet
          case rel => exact ⟨c1, c2, rfl, rfl, HMb⟩
    · refine tri_act rfl (fun K6 hK6 => ?_)
      have HMa := Lib.hid (HM.out.al1)
      clear HM
      have HM := HMa
      clear HMa
      have hq := HM.out.q
      go_wp2_with fail
      refine hK6.out _ _ hq ?_
      clear hq
      generalize x0.alloc (.cells #[.int .i64 0] 3) = x1 at *
      generalize x0.heap.size = c1 at *
      refine tri_both ?_ ?_
      · refine tri_act rfl (fun K2 hK2 => ?_)
        go_wp2_with fail
        refine (HN1.out _ HM.out.rd).mono ?_
        rintro e x2 ⟨rfl, hR, hU⟩
        have HMa := Lib.hid (HM.out.read hR hU)
        clear hR hU HM
        have HM := HMa
        clear HMa
        have hq := HM.out.q
        go_wp2_with fail
        refine hK2.out _ _ hq ?_
        clear hq
        refine tri_both ?_ ?_
        · refine tri_act rfl (fun K5 hK5 => ?_)
          go_wp2_with fail
          refine (HN2.out _ HM.out.rd).mono ?_
          rintro e x3 ⟨rfl, hR, hU⟩
          have HMa := Lib.hid (HM.out.read hR hU)
          clear hR hU HM
          have HM := HMa
          clear HMa
          have hq := HM.out.q
          go_wp2_with fail
          refine hK5.out _ _ hq ?_
          clear hq
          refine tri_act rfl (fun K7 hK7 => ?_)
          have HMa := Lib.hid (HM.out.al2)
          clear HM
          have HM := HMa
          clear HMa
          have hq := HM.out.q
          go_wp2_with fail
          refine hK7.out _ _ hq ?_
          clear hq
          generalize x3.alloc (.cells #[.bool false] 4) = x4 at *
          generalize x3.heap.size = c2 at *
          refine tri_act rfl (fun K8 hK8 => ?_)
          have hc := HM.out.c1
          have hf := HM.out.f1
          have HMa := Lib.hid (HM.out.st1 v)
          have hq := HMa.out.q
          go_wp2_with fail
          refine hK8.out _ _ hq ?_
          clear hq hc hf HM
          generalize x4.setCell ⟨c1, 0, none⟩ (.int .i64 v) = x8 at *
          refine tri_act rfl (fun K9 hK9 => ?_)
          have hc := HMa.out.c2
          have hf := HMa.out.f2
          have HMb := Lib.hid (HMa.out.st2 redo)
          have hq := HMb.out.q
          go_wp2_with fail
          refine hK9.out _ _ hq ?_
          refine tri_end ?_
          clear hq hc hf HMa
          generalize x8.setCell ⟨c2, 0, none⟩ (.bool redo) = x9 at *
          go_wp2_with fail
          go_meet
          case rel => exact ⟨c1, c2, rfl, rfl, HMb⟩
        · refine tri_act rfl (fun K7 hK7 => ?_)
          have HMa := Lib.hid (HM.out.al2)
          clear HM
          have HM := HMa
          clear HMa
          have hq := HM.out.q
          go_wp2_with fail
          refine hK7.out _ _ hq ?_
          clear hq
          generalize x2.alloc (.cells #[.bool false] 4) = x3 at *
          generalize x2.heap.size = c2 at *
          refine tri_act rfl (fun K5 hK5 => ?_)
          go_wp2_with fail
          refine (HN2.out _ HM.out.rd).mono ?_
          rintro e x4 ⟨rfl, hR, hU⟩
          have HMa := Lib.hid (HM.out.read hR hU)
          clear hR hU HM
          have HM := HMa
          clear HMa
          have hq := HM.out.q
          go_wp2_with fail
          refine hK5.out _ _ hq ?_
          clear hq
          refine tri_act rfl (fun K8 hK8 => ?_)
          have hc := HM.out.c1
          have hf := HM.out.f1
          have HMa := Lib.hid (HM.out.st1 v)
          have hq := HMa.out.q
          go_wp2_with fail
          refine hK8.out _ _ hq ?_
          clear hq hc hf HM
          generalize x4.setCell ⟨c1, 0, none⟩ (.int .i64 v) = x8 at *
          refine tri_act rfl (fun K9 hK9 => ?_)
          have hc := HMa.out.c2
          have hf := HMa.out.f2
          have HMb := Lib.hid (HMa.out.st2 redo)
          have hq := HMb.out.q
          go_wp2_with fail
          refine hK9.out _ _ hq ?_
          refine tri_end ?_
          clear hq hc hf HMa
          generalize x8.setCell ⟨c2, 0, none⟩ (.bool redo) = x9 at *
          go_wp2_with fail
          go_meet
          case rel => exact ⟨c1, c2, rfl, rfl, HMb⟩
      · refine tri_act rfl (fun K7 hK7 => ?_)
        have HMa := Lib.hid (HM.out.al2)
        clear HM
        have HM := HMa
        clear HMa
        have hq := HM.out.q
        go_wp2_with fail
        refine hK7.out _ _ hq ?_
        clear hq
        generalize x1.alloc (.cells #[.bool false] 4) = x2 at *
        generalize x1.heap.size = c2 at *
        refine tri_act rfl (fun K2 hK2 => ?_)
        go_wp2_with fail
        refine (HN1.out _ HM.out.rd).mono ?_
        rintro e x3 ⟨rfl, hR, hU⟩
        have HMa := Lib.hid (HM.out.read hR hU)
        clear hR hU HM
        have HM := HMa
        clear HMa
        have hq := HM.out.q
        go_wp2_with fail
        refine hK2.out _ _ hq ?_
        clear hq
        refine tri_act rfl (fun K5 hK5 => ?_)
        go_wp2_with fail
        refine (HN2.out _ HM.out.rd).mono ?_
        rintro e x4 ⟨rfl, hR, hU⟩
        have HMa := Lib.hid (HM.out.read hR hU)
        clear hR hU HM
        have HM := HMa
        clear HMa
        have hq := HM.out.q
        go_wp2_with fail
        refine hK5.out _ _ hq ?_
        clear hq
        refine tri_act rfl (fun K8 hK8 => ?_)
        have hc := HM.out.c1
        have hf := HM.out.f1
        have HMa := Lib.hid (HM.out.st1 v)
        have hq := HMa.out.q
        go_wp2_with fail
        refine hK8.out _ _ hq ?_
        clear hq hc hf HM
        generalize x4.setCell ⟨c1, 0, none⟩ (.int .i64 v) = x8 at *
        refine tri_act rfl (fun K9 hK9 => ?_)
        have hc := HMa.out.c2
        have hf := HMa.out.f2
        have HMb := Lib.hid (HMa.out.st2 redo)
        have hq := HMb.out.q
        go_wp2_with fail
        refine hK9.out _ _ hq ?_
        refine tri_end ?_
        clear hq hc hf HMa
        generalize x8.setCell ⟨c2, 0, none⟩ (.bool redo) = x9 at *
        go_wp2_with fail
        go_meet
        case rel => exact ⟨c1, c2, rfl, rfl, HMb⟩
    · refine tri_act rfl (fun K7 hK7 => ?_)
      have HMa := Lib.hid (HM.out.al2)
      clear HM
      have HM := HMa
      clear HMa
      have hq := HM.out.q
      go_wp2_with fail
      refine hK7.out _ _ hq ?_
      clear hq
      generalize x0.alloc (.cells #[.bool false] 4) = x1 at *
      generalize x0.heap.size = c2 at *
      refine tri_both ?_ ?_
      · refine tri_act rfl (fun K2 hK2 => ?_)
        go_wp2_with fail
        refine (HN1.out _ HM.out.rd).mono ?_
        rintro e x2 ⟨rfl, hR, hU⟩
        have HMa := Lib.hid (HM.out.read hR hU)
        clear hR hU HM
        have HM := HMa
        clear HMa
        have hq := HM.out.q
        go_wp2_with fail
        refine hK2.out _ _ hq ?_
        clear hq
        refine tri_both ?_ ?_
        · refine tri_act rfl (fun K5 hK5 => ?_)
          go_wp2_with fail
          refine (HN2.out _ HM.out.rd).mono ?_
          rintro e x3 ⟨rfl, hR, hU⟩
          have HMa := Lib.hid (HM.out.read hR hU)
          clear hR hU HM
          have HM := HMa
          clear HMa
          have hq := HM.out.q
          go_wp2_with fail
          refine hK5.out _ _ hq ?_
          clear hq
          refine tri_act rfl (fun K6 hK6 => ?_)
          have HMa := Lib.hid (HM.out.al1)
          clear HM
          have HM := HMa
          clear HMa
          have hq := HM.out.q
          go_wp2_with fail
          refine hK6.out _ _ hq ?_
          clear hq
          generalize x3.alloc (.cells #[.int .i64 0] 3) = x4 at *
          generalize x3.heap.size = c1 at *
          refine tri_act rfl (fun K8 hK8 => ?_)
          have hc := HM.out.c1
          have hf := HM.out.f1
          have HMa := Lib.hid (HM.out.st1 v)
          have hq := HMa.out.q
          go_wp2_with fail
          refine hK8.out _ _ hq ?_
          clear hq hc hf HM
          generalize x4.setCell ⟨c1, 0, none⟩ (.int .i64 v) = x8 at *
          refine tri_act rfl (fun K9 hK9 => ?_)
          have hc := HMa.out.c2
          have hf := HMa.out.f2
          have HMb := Lib.hid (HMa.out.st2 redo)
          have hq := HMb.out.q
          go_wp2_with fail
          refine hK9.out _ _ hq ?_
          refine tri_end ?_
          clear hq hc hf HMa
          generalize x8.setCell ⟨c2, 0, none⟩ (.bool redo) = x9 at *
          go_wp2_with fail
          go_meet
          case rel => exact ⟨c1, c2, rfl, rfl, HMb⟩
        · refine tri_act rfl (fun K6 hK6 => ?_)
          have HMa := Lib.hid (HM.out.al1)
          clear HM
          have HM := HMa
          clear HMa
          have hq := HM.out.q
          go_wp2_with fail
          refine hK6.out _ _ hq ?_
          clear hq
          generalize x2.alloc (.cells #[.int .i64 0] 3) = x3 at *
          generalize x2.heap.size = c1 at *
          refine tri_act rfl (fun K5 hK5 => ?_)
          go_wp2_with fail
          refine (HN2.out _ HM.out.rd).mono ?_
          rintro e x4 ⟨rfl, hR, hU⟩
          have HMa := Lib.hid (HM.out.read hR hU)
          clear hR hU HM
          have HM := HMa
          clear HMa
          have hq := HM.out.q
          go_wp2_with fail
          refine hK5.out _ _ hq ?_
          clear hq
          refine tri_act rfl (fun K8 hK8 => ?_)
          have hc := HM.out.c1
          have hf := HM.out.f1
          have HMa := Lib.hid (HM.out.st1 v)
          have hq := HMa.out.q
          go_wp2_with fail
          refine hK8.out _ _ hq ?_
          clear hq hc hf HM
          generalize x4.setCell ⟨c1, 0, none⟩ (.int .i64 v) = x8 at *
          refine tri_act rfl (fun K9 hK9 => ?_)
          have hc := HMa.out.c2
          have hf := HMa.out.f2
          have HMb := Lib.hid (HMa.out.st2 redo)
          have hq := HMb.out.q
          go_wp2_with fail
          refine hK9.out _ _ hq ?_
          refine tri_end ?_
          clear hq hc hf HMa
          generalize x8.setCell ⟨c2, 0, none⟩ (.bool redo) = x9 at *
          go_wp2_with fail
          go_meet
          case rel => exact ⟨c1, c2, rfl, rfl, HMb⟩
      · refine tri_act rfl (fun K6 hK6 => ?_)
        have HMa := Lib.hid (HM.out.al1)
        clear HM
        have HM := HMa
        clear HMa
        have hq := HM.out.q
        go_wp2_with fail
        refine hK6.out _ _ hq ?_
        clear hq
        generalize x1.alloc (.cells #[.int .i64 0] 3) = x2 at *
        generalize x1.heap.size = c1 at *
        refine tri_act rfl (fun K2 hK2 => ?_)
        go_wp2_with fail
        refine (HN1.out _ HM.out.rd).mono ?_
        rintro e x3 ⟨rfl, hR, hU⟩
        have HMa := Lib.hid (HM.out.read hR hU)
        clear hR hU HM
        have HM := HMa
        clear HMa
        have hq := HM.out.q
        go_wp2_with fail
        refine hK2.out _ _ hq ?_
        clear hq
        refine tri_act rfl (fun K5 hK5 => ?_)
        go_wp2_with fail
        refine (HN2.out _ HM.out.rd).mono ?_
        rintro e x4 ⟨rfl, hR, hU⟩
        have HMa := Lib.hid (HM.out.read hR hU)
        clear hR hU HM
        have HM := HMa
        clear HMa
        have hq := HM.out.q
        go_wp2_with fail
        refine hK5.out _ _ hq ?_
        clear hq
        refine tri_act rfl (fun K8 hK8 => ?_)
        have hc := HM.out.c1
        have hf := HM.out.f1
        have HMa := Lib.hid (HM.out.st1 v)
        have hq := HMa.out.q
        go_wp2_with fail
        refine hK8.out _ _ hq ?_
        clear hq hc hf HM
        generalize x4.setCell ⟨c1, 0, none⟩ (.int .i64 v) = x8 at *
        refine tri_act rfl (fun K9 hK9 => ?_)
        have hc := HMa.out.c2
        have hf := HMa.out.f2
        have HMb := Lib.hid (HMa.out.st2 redo)
        have hq := HMb.out.q
        go_wp2_with fail
        refine hK9.out _ _ hq ?_
        refine tri_end ?_
        clear hq hc hf HMa
        generalize x8.setCell ⟨c2, 0, none⟩ (.bool redo) = x9 at *
        go_wp2_with fail
        go_meet
        case rel => exact ⟨c1, c2, rfl, rfl, HMb⟩
  case rest =>
    obtain ⟨c1, c2, rfl, rfl, HM⟩ := hcut
    have q1 := HM.out.c1
    have q2 := HM.out.c2
    go_wp2_with fail
    refine (HPM.out _).mono ?_
    rintro e w6 ⟨a3, c3, rfl, hv3, hf3, hU6⟩
    have hva := HI0.out.upd (HM.out.upd.trans hU6) (fun _ _ h => h)
    have hse := slEqB_any a3 a c3 c l l w6 hv3 hva
    have hbb : (l == l) = true := by simp
    rw [hbb] at hse
    have HY := Lib.hid (HM.out.same hU6)
    clear hv3 hf3 hU6 hva q1 q2 hbb HM HM1
    go_wp2_with fail
    refine hse.mono ?_
    rintro e w7 ⟨rfl, hU7⟩
    have HZ := Lib.hid (HY.out.same hU7)
    clear hse hU7 HY
    go_wp2_with fail
    go_ret2
    exact ⟨L2, c1, c2, rfl, HZ.out.l2, (HZ.out.b1 c1 rfl).1, (HZ.out.b2 c2 rfl).1, HZ.out.upd⟩
end Go.Proofs.YtccejkikphpnfaaGreatDoor

