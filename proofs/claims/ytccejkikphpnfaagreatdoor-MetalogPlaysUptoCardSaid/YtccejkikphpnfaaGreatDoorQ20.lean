
/- equal waits held against each other. -/
import Derived.Test.YtccejkikphpnfaaGreatDoorQ19
namespace Go.Proofs.YtccejkikphpnfaaGreatDoor
set_option linter.unusedSimpArgs false
set_option linter.unusedVariables false
set_option maxRecDepth 100000
open Go.ChangeShapes Go.WideShapes Go.ChangeAt Go.RowKit
def wtC (p : Wt) : WC := ⟨p.re, p.src, p.dst, p.ss.map stC, p.com, p.cs⟩
/-- Of all its blocks something is so. -/
structure WtBl (P : Nat → Prop) (p : Wt) : Prop where
 s : ∀ g, blk p.sa = some g → P g
 e : ∀ m ∈ p.ss, ∀ g, blk m.a = some g → P g
 c : ∀ g, blk p.ca = some g → P g
theorem WtBl.mono {P Q : Nat → Prop} {p : Wt} (h : WtBl P p) (hPQ : ∀ g, P g → Q g) : WtBl Q p := ⟨fun g hg => hPQ g (h.s g hg), fun m hm g hg => hPQ g (h.e m hm g hg), fun g hg => hPQ g (h.c g hg)⟩
theorem WtIn.updS {S : Nat → Prop} {w w' : World} {p : Wt} (h : WtIn w p) (hn : WtBl (fun g => ¬ S g) p) (hU : Upd S w w') : WtIn w' p :=
 ⟨h.sv.upd hU hn.s, fun m hm => st_stays _ _ _ m (h.se m hm) hU (hn.e m hm), h.cv.upd hU hn.c⟩
/-- What wait leaves. -/
def GotWt (w : World) (br : Nat) (F : Option Nat) (s' : RS) (v : WC) (e : Ending) (w' : World) : Prop :=
 ∃ p : Wt, e = .returned (.agg (wtA p)) ∧ p.on = true ∧ wtC p = v ∧ WtIn w' p ∧ WtBl (fun g => w.heap.size ≤ g ∧ g < w'.heap.size) p ∧ Rd w' br F s'.l s'.e ∧ Upd (fun k => k = br) w w'
theorem wtA_one (p : Wt) : (wtA p).all (·.oneCell') = true := by simp [wtA, Value.oneCell']
def wt0A (re : Bool) (src dst com : Int) : Array Value := #[.bool true, .bool re, .int .i64 src, .int .i64 dst, .slice none 0 0, .int .i64 com, .slice none 0 0]
/-- Ahead of the wait: its block may have been made. -/
structure WPre (w : World) (br R1 R2 : Nat) (F : Option Nat) (s : RS) (b5 : Option Nat) (wk : World) : Prop where
 rd : Rd wk br F s.l s.e
 row : wk.heap[R1]? = some (.cells #[.pointer (some ⟨br, 0, none⟩)] 139)
 res : wk.heap[R2]? = some (.cells pendA 30)
 upd : Upd (fun k => k = br) w wk
 new : ∀ b, b5 = some b → R2 < b ∧ wk.heap[b]? = some (.cells pendA 30)
 n1 : br < w.heap.size
 n2 : w.heap.size ≤ R1
 n3 : R1 < R2
 n6 : ∀ g, F = some g → g < w.heap.size
section
variable {w : World} {br R1 R2 : Nat} {F : Option Nat} {s s' : RS} {b5 : Option Nat} {wk w' : World}
theorem WPre.step (h : WPre w br R1 R2 F s b5 wk) (hR : Rd w' br F s'.l s'.e) (hU : Upd (fun k => k = br) wk w') : WPre w br R1 R2 F s' b5 w' := by
 have h1 := h.n1; have h2 := h.n2; have h3 := h.n3
 exact ⟨hR, (hU.block R1 (lt_of_heap h.row) (by omega)).trans h.row, (hU.block R2 (lt_of_heap h.res) (by omega)).trans h.res, h.upd.trans hU,
  fun b hb => ⟨(h.new b hb).1, (hU.block b (lt_of_heap (h.new b hb).2) (by have := (h.new b hb).1; omega)).trans (h.new b hb).2⟩, h1, h2, h3, h.n6⟩
theorem WPre.drew (h : WPre w br R1 R2 F s b5 wk) : WPre w br R1 R2 F s b5 wk.drew :=
 ⟨h.rd.upd (Upd.drew (fun _ => False) wk) (fun h => h) (fun _ _ h => h), h.row, h.res, h.upd.trans (Upd.drew _ _), h.new, h.n1, h.n2, h.n3, h.n6⟩
theorem WPre.alloc (h : WPre w br R1 R2 F s none wk) : WPre w br R1 R2 F s (some wk.heap.size) (wk.alloc (.cells pendA 30)) := by
 have hU := Upd.alloc (fun _ => False) wk (.cells pendA 30)
 exact ⟨h.rd.upd hU (fun h => h) (fun _ _ h => h), (hU.block R1 (lt_of_heap h.row) (fun h => h)).trans h.row, (hU.block R2 (lt_of_heap h.res) (fun h => h)).trans h.res, h.upd.trans (hU.mono (fun _ _ h => h.elim)),
  fun b hb => by cases hb; exact ⟨lt_of_heap h.res, heap_alloc_new _ _⟩, h.n1, h.n2, h.n3, h.n6⟩
theorem WPre.q (h : WPre w br R1 R2 F s b5 wk) : wk.cell? ⟨R1, 0, none⟩ = some (.pointer (some ⟨br, 0, none⟩)) := by rw [cell_of_row _ _ _ _ _ _ h.row]; rfl
/-- Behind it: the facts from which the lists are read. -/
def WAt (w : World) (br R1 R2 BX : Nat) (F : Option Nat) (s : RS) (A : Array Value) (wk : World) : Prop :=
 Rd wk br F s.l s.e ∧ wk.heap[R1]? = some (.cells #[.pointer (some ⟨br, 0, none⟩)] 139) ∧ wk.heap[R2]? = some (.cells pendA 30) ∧ wk.heap[BX]? = some (.cells A 30) ∧ Upd (fun k => k = br) w wk ∧ R2 < BX
theorem WPre.store {b : Nat} (h : WPre w br R1 R2 F s (some b) wk) (A : Array Value) : WAt w br R1 R2 b F s A (wk.setRow b A) := by
 have k1 := h.n1; have k2 := h.n2; have k3 := h.n3
 have hb := (h.new b rfl).1
 have hU := Upd.setRow (S := fun k => k = b) wk rfl A
 exact ⟨h.rd.upd hU (by omega) (fun g hg e => by have := h.n6 g hg; omega), (hU.block R1 (lt_of_heap h.row) (by omega)).trans h.row, (hU.block R2 (lt_of_heap h.res) (by omega)).trans h.res, setRow_heap _ _ _ _ _ _ (h.new b rfl).2, h.upd.next hU (fun i hi e => by omega), hb⟩
end
theorem infoPendA (A : Array Value) (h : A.size = 7) : (Tryz.prog.info? 30).map (·.size) = some A.size := by rw [infoPend, h]
set_option maxHeartbeats 16000000 in
theorem mrwait_gen (br : Nat) (F : Option Nat) (s : RS) (w : World) (hr : Rd w br F s.l s.e) (hF : ∀ g, F = some g → g < w.heap.size) (hl : s.l.length ≤ 100000000) :
  Calls Tryz.prog 102 #[.agg #[.pointer (some ⟨br, 0, none⟩)]] w (GotWt w br F (waitS s).2 (waitS s).1) := by
 have hbr : br < w.heap.size := by
  obtain ⟨a, c, hh, _⟩ := hr.ex
  exact lt_of_heap hh
 have hU0 : Upd (fun _ => False) w ((w.alloc (.cells #[.pointer (some ⟨br, 0, none⟩)] 139)).alloc (.cells pendA 30)) := (Upd.alloc _ _ _).trans (Upd.alloc _ _ _)
 have hb1 : ((w.alloc (.cells #[.pointer (some ⟨br, 0, none⟩)] 139)).alloc (.cells pendA 30)).heap[w.heap.size]? = some (.cells #[.pointer (some ⟨br, 0, none⟩)] 139) := by
  rw [Below.heap_alloc _ _ _ (by simp)]; exact heap_alloc_new _ _
 have hb2 : ((w.alloc (.cells #[.pointer (some ⟨br, 0, none⟩)] 139)).alloc (.cells pendA 30)).heap[w.heap.size + 1]? = some (.cells pendA 30) := by
  have := heap_alloc_new (w.alloc (.cells #[.pointer (some ⟨br, 0, none⟩)] 139)) (.cells pendA 30)
  simpa using this
 have hpre : WPre w br w.heap.size (w.heap.size + 1) F s none ((w.alloc (.cells #[.pointer (some ⟨br, 0, none⟩)] 139)).alloc (.cells pendA 30)) :=
  ⟨hr.upd hU0 (fun h => h) (fun _ _ h => h), hb1, hb2, hU0.mono (fun _ _ h => h.elim), (fun b h => by cases h), hbr, Nat.le_refl _, by omega, hF⟩
 have HW := Lib.hid (And.intro hF hl)
 have HS : Hid (waitS s = (⟨(boolS s).1, intV (boolS s).2, intV (takeS 4 (boolS s).2).2, (wS1 s).1, intV (takeS 4 (takeS 4 (boolS s).2).2).2, (wS2 s).1⟩, (wS2 s).2)) := Lib.hid rfl
 have h1 : wS1 s = someS stS (takeS 4 (takeS 4 (takeS 4 (boolS s).2).2).2).2 := rfl
 have h2 : wS2 s = someS clS (wS1 s).2 := rfl
 have l0 := bool_goes.le s
 have l1 := takeS_len 4 (boolS s).2
 have l2 := takeS_len 4 (takeS 4 (boolS s).2).2
 have l3 := takeS_len 4 (takeS 4 (takeS 4 (boolS s).2).2).2
 have l4 : (wS1 s).2.l.length ≤ (takeS 4 (takeS 4 (takeS 4 (boolS s).2).2).2).2.l.length := (some_goes st_eats.toGoes).le _
 have HK0 : Hid (∀ wk, Rd wk br F s.l s.e → Calls Tryz.prog 99 #[.pointer (some ⟨br, 0, none⟩)] wk (ReadN wk br F (boolS s).2 (.bool (boolS s).1))) := Lib.hid (fun wk h => rbool_any br F s wk h (by omega))
 have HK1 : Hid (∀ wk, Rd wk br F (boolS s).2.l (boolS s).2.e → Calls Tryz.prog 98 #[.pointer (some ⟨br, 0, none⟩)] wk (ReadN wk br F (takeS 4 (boolS s).2).2 (.int .i64 (intV (boolS s).2)))) := Lib.hid (fun wk h => rint_any br F _ wk h (by omega))
 have HK2 : Hid (∀ wk, Rd wk br F (takeS 4 (boolS s).2).2.l (takeS 4 (boolS s).2).2.e → Calls Tryz.prog 98 #[.pointer (some ⟨br, 0, none⟩)] wk (ReadN wk br F (takeS 4 (takeS 4 (boolS s).2).2).2 (.int .i64 (intV (takeS 4 (boolS s).2).2)))) := Lib.hid (fun wk h => rint_any br F _ wk h (by omega))
 have HK3 : Hid (∀ wk, Rd wk br F (takeS 4 (takeS 4 (boolS s).2).2).2.l (takeS 4 (takeS 4 (boolS s).2).2).2.e → Calls Tryz.prog 98 #[.pointer (some ⟨br, 0, none⟩)] wk (ReadN wk br F (takeS 4 (takeS 4 (takeS 4 (boolS s).2).2).2).2 (.int .i64 (intV (takeS 4 (takeS 4 (boolS s).2).2).2)))) := Lib.hid (fun wk h => rint_any br F _ wk h (by omega))
 generalize waitS s = SS at *
 generalize wS1 s = q1 at *
 generalize wS2 s = q2 at *
 generalize intV (takeS 4 (takeS 4 (boolS s).2).2).2 = com at *
 generalize (takeS 4 (takeS 4 (takeS 4 (boolS s).2).2).2).2 = s4 at *
 generalize (takeS 4 (takeS 4 (boolS s).2).2).2 = s3 at *
 generalize intV (takeS 4 (boolS s).2).2 = dst at *
 generalize (takeS 4 (boolS s).2).2 = s2 at *
 generalize intV (boolS s).2 = src at *
 generalize (boolS s).1 = re at *
 generalize (boolS s).2 = s1 at *
 have HM := Lib.hid (And.intro h1 h2)
 have HL : Hid (s4.l.length ≤ 100000000 ∧ q1.2.l.length ≤ 100000000) := Lib.hid ⟨by omega, by omega⟩
 have HP := Lib.hid hpre
 unfold pendA at HP
 clear hU0 hb1 hb2 hr hF h1 h2 l0 l1 l2 l3 l4 hpre
 go_enter Tryz.func102, Tryz.ntmps102
 go_upto_region 1 with (fail)
 generalize (w.alloc (.cells #[.pointer (some ⟨br, 0, none⟩)] 139)).alloc (.cells #[.bool false, .bool false, .int .i64 0, .int .i64 0, .slice none 0 0, .int .i64 0, .slice none 0 0] 30) = y0 at *
 obtain ⟨R1, hR1⟩ : ∃ B, B = w.heap.size := ⟨_, rfl⟩
 obtain ⟨R2, hR2⟩ : ∃ B, B = w.heap.size + 1 := ⟨_, rfl⟩
 rw [← hR2, ← hR1] at HP
 rw [← hR2, ← hR1]
 have HB := Lib.hid (And.intro hR1 (And.intro hR2 hbr))
 clear hR1 hR2 hbr
 go_cut [3] (fun s3 wx => ∃ BX, s3 = .pointer (some ⟨BX, 0, none⟩) ∧ Hid (WAt w br R1 R2 BX F s4 (wt0A re src dst com) wx))
 case first =>
  have HPd := Lib.hid HP.out.drew
  have hqd := HPd.out.q
  refine wp_region_tree (.two [0, 1, 3, 4, 6, 7, 9, 10] 2 (.two [] 5 (.two [] 8 (.two [] 11 (.one [12] 13 (.one [] 14 (.last []))) 13 (.one [] 11 (.one [12] 14 (.last [])))) 13 (.one [] 8 (.one [] 11 (.one [12] 14 (.last []))))) 13 (.one [] 5 (.one [] 8 (.one [] 11 (.one [12] 14 (.last [])))))) 13 (.one [] 2 (.one [] 5 (.one [] 8 (.one [] 11 (.one [12] 14 (.last []))))))) (fun w' => w'.cell? ⟨R1, 0, none⟩ = some (.pointer (some ⟨br, 0, none⟩))) (by kernel_rfl) (by kernel_rfl) hqd ?_
  iterate 8
   refine tree_take2 (v := ?_) rfl rfl (fun w' hS => ?_) ?_
   rotate_left
   ·skip
    go_simp; try with_reducible rfl
   simp only [putL]
  clear hqd HP
  refine tree_both ?_ ?_
  ·refine tree_act rfl (fun K1 hK1 => ?_)
   go_wp2_with fail
   refine (HK0.out _ HPd.out.rd).mono ?_
   unfold ReadN
   rintro e w1 ⟨rfl, hR, hU⟩
   have M1 := Lib.hid (HPd.out.step (s' := s1) hR hU)
   clear hR hU
   go_wp2_with fail
   refine hK1.out _ _ M1.out.q ?_
   refine tree_both ?_ ?_
   ·refine tree_act rfl (fun K2 hK2 => ?_)
    go_wp2_with fail
    refine (HK1.out _ M1.out.rd).mono ?_
    unfold ReadN
    rintro e w2 ⟨rfl, hR, hU⟩
    have M2 := Lib.hid (M1.out.step (s' := s2) hR hU)
    clear hR hU
    go_wp2_with fail
    refine hK2.out _ _ M2.out.q ?_
    refine tree_both ?_ ?_
    ·refine tree_act rfl (fun K3 hK3 => ?_)
     go_wp2_with fail
     refine (HK2.out _ M2.out.rd).mono ?_
     unfold ReadN
     rintro e w3 ⟨rfl, hR, hU⟩
     have M3 := Lib.hid (M2.out.step (s' := s3) hR hU)
     clear hR hU
     go_wp2_with fail
     refine hK3.out _ _ M3.out.q ?_
     refine tree_both ?_ ?_
     ·refine tree_act rfl (fun K4 hK4 => ?_)
      go_wp2_with fail
      refine (HK3.out _ M3.out.rd).mono ?_
      unfold ReadN
      rintro e w4 ⟨rfl, hR, hU⟩
      have M4 := Lib.hid (M3.out.step (s' := s4) hR hU)
      clear hR hU
      go_wp2_with fail
      refine hK4.out _ _ M4.out.q ?_
      refine tree_take (v := ?_) rfl rfl (fun w' hS => ?_) ?_
      rotate_left
      ·skip
       go_simp; try with_reducible rfl
      simp only [putL]
      refine tree_act rfl (fun K5 hK5 => ?_)
      have M5 := Lib.hid M4.out.alloc
      have hq5 := M5.out.q
      unfold pendA at M5 hq5
      go_wp2_with fail
      refine hK5.out _ _ hq5 ?_
      clear hq5
      refine tree_act rfl (fun K6 hK6 => ?_)
      refine wpList_store_row rfl 30 (.tmp 3) (.tmp 16) rfl w4.heap.size (wt0A re src dst com) _ 30 rfl rfl (M5.out.new _ rfl).2 (infoPendA _ rfl) rfl (by simp [wt0A, Value.oneCell']) ?_
      have M6 := Lib.hid (M5.out.store (wt0A re src dst com))
      have hq6 : World.cell? _ ⟨R1, 0, none⟩ = some (.pointer (some ⟨br, 0, none⟩)) := cell_of_row _ R1 0 _ _ _ M6.out.2.1
      go_wp2_with fail
      refine hK6.out _ _ hq6 ?_
      refine tree_end ?_
      go_wp2_with fail
      go_meet
      case rel => exact ⟨w4.heap.size, rfl, M6⟩
     ·refine tree_act rfl (fun K7 hK7 => ?_)
      have M7 := Lib.hid M3.out.alloc
      have hq7 := M7.out.q
      unfold pendA at M7 hq7
      go_wp2_with fail
      refine hK7.out _ _ hq7 ?_
      clear hq7
      refine tree_act rfl (fun K8 hK8 => ?_)
      go_wp2_with fail
      refine (HK3.out _ M7.out.rd).mono ?_
      unfold ReadN
      rintro e w8 ⟨rfl, hR, hU⟩
      have M8 := Lib.hid (M7.out.step (s' := s4) hR hU)
      clear hR hU
      go_wp2_with fail
      refine hK8.out _ _ M8.out.q ?_
      refine tree_take (v := ?_) rfl rfl (fun w' hS => ?_) ?_
      rotate_left
      ·skip
       go_simp; try with_reducible rfl
      simp only [putL]
      refine tree_act rfl (fun K9 hK9 => ?_)
      refine wpList_store_row rfl 30 (.tmp 3) (.tmp 16) rfl w3.heap.size (wt0A re src dst com) _ 30 rfl rfl (M8.out.new _ rfl).2 (infoPendA _ rfl) rfl (by simp [wt0A, Value.oneCell']) ?_
      have M9 := Lib.hid (M8.out.store (wt0A re src dst com))
      have hq9 : World.cell? _ ⟨R1, 0, none⟩ = some (.pointer (some ⟨br, 0, none⟩)) := cell_of_row _ R1 0 _ _ _ M9.out.2.1
      go_wp2_with fail
      refine hK9.out _ _ hq9 ?_
      refine tree_end ?_
      go_wp2_with fail
      go_meet
      case rel => exact ⟨w3.heap.size, rfl, M9⟩
    ·refine tree_act rfl (fun K10 hK10 => ?_)
     have M10 := Lib.hid M2.out.alloc
     have hq10 := M10.out.q
     unfold pendA at M10 hq10
     go_wp2_with fail
     refine hK10.out _ _ hq10 ?_
     clear hq10
     refine tree_act rfl (fun K11 hK11 => ?_)
     go_wp2_with fail
     refine (HK2.out _ M10.out.rd).mono ?_
     unfold ReadN
     rintro e w11 ⟨rfl, hR, hU⟩
     have M11 := Lib.hid (M10.out.step (s' := s3) hR hU)
     clear hR hU
     go_wp2_with fail
     refine hK11.out _ _ M11.out.q ?_
     refine tree_act rfl (fun K12 hK12 => ?_)
     go_wp2_with fail
     refine (HK3.out _ M11.out.rd).mono ?_
     unfold ReadN
     rintro e w12 ⟨rfl, hR, hU⟩
     have M12 := Lib.hid (M11.out.step (s' := s4) hR hU)
     clear hR hU
     go_wp2_with fail
     refine hK12.out _ _ M12.out.q ?_
     refine tree_take (v := ?_) rfl rfl (fun w' hS => ?_) ?_
     rotate_left
     ·skip
      go_simp; try with_reducible rfl
     simp only [putL]
     refine tree_act rfl (fun K13 hK13 => ?_)
     refine wpList_store_row rfl 30 (.tmp 3) (.tmp 16) rfl w2.heap.size (wt0A re src dst com) _ 30 rfl rfl (M12.out.new _ rfl).2 (infoPendA _ rfl) rfl (by simp [wt0A, Value.oneCell']) ?_
     have M13 := Lib.hid (M12.out.store (wt0A re src dst com))
     have hq13 : World.cell? _ ⟨R1, 0, none⟩ = some (.pointer (some ⟨br, 0, none⟩)) := cell_of_row _ R1 0 _ _ _ M13.out.2.1
     go_wp2_with fail
     refine hK13.out _ _ hq13 ?_
     refine tree_end ?_
     go_wp2_with fail
     go_meet
     case rel => exact ⟨w2.heap.size, rfl, M13⟩
   ·refine tree_act rfl (fun K14 hK14 => ?_)
    have M14 := Lib.hid M1.out.alloc
    have hq14 := M14.out.q
    unfold pendA at M14 hq14
    go_wp2_with fail
    refine hK14.out _ _ hq14 ?_
    clear hq14
    refine tree_act rfl (fun K15 hK15 => ?_)
    go_wp2_with fail
    refine (HK1.out _ M14.out.rd).mono ?_
    unfold ReadN
    rintro e w15 ⟨rfl, hR, hU⟩
    have M15 := Lib.hid (M14.out.step (s' := s2) hR hU)
    clear hR hU
    go_wp2_with fail
    refine hK15.out _ _ M15.out.q ?_
    refine tree_act rfl (fun K16 hK16 => ?_)
    go_wp2_with fail
    refine (HK2.out _ M15.out.rd).mono ?_
    unfold ReadN
    rintro e w16 ⟨rfl, hR, hU⟩
    have M16 := Lib.hid (M15.out.step (s' := s3) hR hU)
    clear hR hU
    go_wp2_with fail
    refine hK16.out _ _ M16.out.q ?_
    refine tree_act rfl (fun K17 hK17 => ?_)
    go_wp2_with fail
    refine (HK3.out _ M16.out.rd).mono ?_
    unfold ReadN
    rintro e w17 ⟨rfl, hR, hU⟩
    have M17 := Lib.hid (M16.out.step (s' := s4) hR hU)
    clear hR hU
    go_wp2_with fail
    refine hK17.out _ _ M17.out.q ?_
    refine tree_take (v := ?_) rfl rfl (fun w' hS => ?_) ?_
    rotate_left
    ·skip
     go_simp; try with_reducible rfl
    simp only [putL]
    refine tree_act rfl (fun K18 hK18 => ?_)
    refine wpList_store_row rfl 30 (.tmp 3) (.tmp 16) rfl w1.heap.size (wt0A re src dst com) _ 30 rfl rfl (M17.out.new _ rfl).2 (infoPendA _ rfl) rfl (by simp [wt0A, Value.oneCell']) ?_
    have M18 := Lib.hid (M17.out.store (wt0A re src dst com))
    have hq18 : World.cell? _ ⟨R1, 0, none⟩ = some (.pointer (some ⟨br, 0, none⟩)) := cell_of_row _ R1 0 _ _ _ M18.out.2.1
    go_wp2_with fail
    refine hK18.out _ _ hq18 ?_
    refine tree_end ?_
    go_wp2_with fail
    go_meet
    case rel => exact ⟨w1.heap.size, rfl, M18⟩
  ·refine tree_act rfl (fun K19 hK19 => ?_)
   have M19 := Lib.hid HPd.out.alloc
   have hq19 := M19.out.q
   unfold pendA at M19 hq19
   go_wp2_with fail
   refine hK19.out _ _ hq19 ?_
   clear hq19
   refine tree_act rfl (fun K20 hK20 => ?_)
   go_wp2_with fail
   refine (HK0.out _ M19.out.rd).mono ?_
   unfold ReadN
   rintro e w20 ⟨rfl, hR, hU⟩
   have M20 := Lib.hid (M19.out.step (s' := s1) hR hU)
   clear hR hU
   go_wp2_with fail
   refine hK20.out _ _ M20.out.q ?_
   refine tree_act rfl (fun K21 hK21 => ?_)
   go_wp2_with fail
   refine (HK1.out _ M20.out.rd).mono ?_
   unfold ReadN
   rintro e w21 ⟨rfl, hR, hU⟩
   have M21 := Lib.hid (M20.out.step (s' := s2) hR hU)
   clear hR hU
   go_wp2_with fail
   refine hK21.out _ _ M21.out.q ?_
   refine tree_act rfl (fun K22 hK22 => ?_)
   go_wp2_with fail
   refine (HK2.out _ M21.out.rd).mono ?_
   unfold ReadN
   rintro e w22 ⟨rfl, hR, hU⟩
   have M22 := Lib.hid (M21.out.step (s' := s3) hR hU)
   clear hR hU
   go_wp2_with fail
   refine hK22.out _ _ M22.out.q ?_
   refine tree_act rfl (fun K23 hK23 => ?_)
   go_wp2_with fail
   refine (HK3.out _ M22.out.rd).mono ?_
   unfold ReadN
   rintro e w23 ⟨rfl, hR, hU⟩
   have M23 := Lib.hid (M22.out.step (s' := s4) hR hU)
   clear hR hU
   go_wp2_with fail
   refine hK23.out _ _ M23.out.q ?_
   refine tree_take (v := ?_) rfl rfl (fun w' hS => ?_) ?_
   rotate_left
   ·skip
    go_simp; try with_reducible rfl
   simp only [putL]
   refine tree_act rfl (fun K24 hK24 => ?_)
   refine wpList_store_row rfl 30 (.tmp 3) (.tmp 16) rfl y0.drew.heap.size (wt0A re src dst com) _ 30 rfl rfl (M23.out.new _ rfl).2 (infoPendA _ rfl) rfl (by simp [wt0A, Value.oneCell']) ?_
   have M24 := Lib.hid (M23.out.store (wt0A re src dst com))
   have hq24 : World.cell? _ ⟨R1, 0, none⟩ = some (.pointer (some ⟨br, 0, none⟩)) := cell_of_row _ R1 0 _ _ _ M24.out.2.1
   go_wp2_with fail
   refine hK24.out _ _ hq24 ?_
   refine tree_end ?_
   go_wp2_with fail
   go_meet
   case rel => exact ⟨y0.drew.heap.size, rfl, M24⟩
 case rest =>
 obtain ⟨BX, rfl, hA⟩ := hcut
 rename_i y1
 have HX : Hid (Rd wc br F s4.l s4.e ∧ wc.heap[R1]? = some (.cells #[.pointer (some ⟨br, 0, none⟩)] 139) ∧ wc.heap[R2]? = some (.cells pendA 30) ∧ wc.heap[BX]? = some (.cells (wt0A re src dst com) 30) ∧ Upd (fun k => k = br) w wc) :=
  Lib.hid ⟨hA.out.1, hA.out.2.1, hA.out.2.2.1, hA.out.2.2.2.1, hA.out.2.2.2.2.1⟩
 have HN : Hid (R1 ≠ br ∧ BX ≠ br ∧ BX ≠ R1 ∧ R2 ≠ br ∧ R2 ≠ BX ∧ R2 < BX ∧ br < BX ∧ w.heap.size ≤ BX ∧ (∀ g, F = some g → g < BX) ∧ R1 < R2) := Lib.hid (by
  have b := HB.out; have z := hA.out.2.2.2.2.2
  refine ⟨by omega, by omega, by omega, by omega, by omega, by omega, by omega, by omega, fun g hg => ?_, by omega⟩
  have := HW.out.1 g hg; omega)
 clear hA
 have q : World.cell? wc ⟨R1, 0, none⟩ = some (.pointer (some ⟨br, 0, none⟩)) := cell_of_row _ R1 0 _ _ _ HX.out.2.1
 have hsm := some_stage (X := St) (dec := stV) (sz := 2) (eT := 80) (ib := stBl) (inn := StIn) (T := 30) (row := fun a n c => #[.bool true, .bool re, .int .i64 src, .int .i64 dst, .slice a n c, .int .i64 com, .slice none 0 0]) (br := br) (BX := BX) (R1 := R1) (F := F) st_eats stC 142 (enter_of Tryz.func142 (by kernel_rfl) (by kernel_rfl)) HX.out.1 HL.out.1 HX.out.2.1 HX.out.2.2.2.1 HN.out.1 HN.out.2.1 HN.out.2.2.1 HN.out.2.2.2.2.2.2.2.2.1
  (fun w0 s' xs a c w' hp hls hn => (wait1_gen hp (fun _ _ _ => rfl) (fun _ _ _ _ _ _ => rfl) hls hn).mono (fun e w2 h => h))
 rw [← HM.out.1] at hsm
 go_wp2_with fail
 refine hsm.mono ?_
 rintro e y2 ⟨rfl, x1, a1, c1, hx, hR, hb1, hbx, hv, hfr, hin, hU⟩
 have hr2 := (hU.block R2 (lt_of_heap HX.out.2.2.1) (fun e => by have := HN.out; omega)).trans HX.out.2.2.1
 have hUw := HX.out.2.2.2.2.next hU (fun i hi e => by have := HN.out; rcases e with e | e <;> omega)
 have HV1 := Lib.hid (And.intro hv (And.intro hfr hin))
 have HC1 := Lib.hid hx
 clear HX
 have HX := Lib.hid (And.intro hR (And.intro hb1 (And.intro hr2 (And.intro hbx hUw))))
 clear hR hb1 hr2 hbx hUw hv hfr hin hx hU hsm q
 have q : World.cell? y2 ⟨R1, 0, none⟩ = some (.pointer (some ⟨br, 0, none⟩)) := cell_of_row _ R1 0 _ _ _ HX.out.2.1
 have hsm := some_stage (X := Cl) (dec := clV) (sz := 3) (eT := 100) (ib := (fun _ => none)) (inn := (fun _ _ => True)) (T := 30) (row := fun a n c => #[.bool true, .bool re, .int .i64 src, .int .i64 dst, .slice a1 x1.length c1, .int .i64 com, .slice a n c]) (br := br) (BX := BX) (R1 := R1) (F := F) cl_eats id 144 (enter_of Tryz.func144 (by kernel_rfl) (by kernel_rfl)) HX.out.1 HL.out.2 HX.out.2.1 HX.out.2.2.2.1 HN.out.1 HN.out.2.1 HN.out.2.2.1 HN.out.2.2.2.2.2.2.2.2.1
  (fun w0 s' xs a c w' hp hls hn => (wait2_gen hp (fun _ _ _ => rfl) (fun _ _ _ _ _ _ => rfl) hls hn).mono (fun e w2 h => by obtain ⟨h1, a', c', h2⟩ := h; exact ⟨h1, _, a', c', rfl, h2⟩))
 rw [← HM.out.2] at hsm
 go_wp2_with fail
 refine hsm.mono ?_
 rintro e y3 ⟨rfl, x2, a2, c2, hx, hR, hb1, hbx, hv, hfr, hin, hU⟩
 have hr2 := (hU.block R2 (lt_of_heap HX.out.2.2.1) (fun e => by have := HN.out; omega)).trans HX.out.2.2.1
 have hUw := HX.out.2.2.2.2.next hU (fun i hi e => by have := HN.out; rcases e with e | e <;> omega)
 have HV1 := Lib.hid (And.intro (HV1.out.1.upd hU (fun g hg e => by have := HV1.out.2.1 g hg; have := HN.out; rcases e with e | e <;> omega)) (And.intro (fun g hg => And.intro (HV1.out.2.1 g hg).1 (Nat.lt_of_lt_of_le (HV1.out.2.1 g hg).2 hU.size)) (fun x hx => And.intro (st_stays _ _ _ x (HV1.out.2.2 x hx).1 hU (fun g hg e => by have := (HV1.out.2.2 x hx).2 g hg; have := HN.out; rcases e with e | e <;> omega)) (fun g hg => And.intro ((HV1.out.2.2 x hx).2 g hg).1 (Nat.lt_of_lt_of_le ((HV1.out.2.2 x hx).2 g hg).2 hU.size)))))
 have HV2 := Lib.hid (And.intro hv (And.intro hfr hin))
 have HC2 := Lib.hid hx
 clear HX
 have HX := Lib.hid (And.intro hR (And.intro hb1 (And.intro hr2 (And.intro hbx hUw))))
 clear hR hb1 hr2 hbx hUw hv hfr hin hx hU hsm q
 have hvar : y3.heap[BX]? = some (.cells (wtA ⟨true, re, src, dst, a1, c1, x1, com, a2, c2, x2⟩) 30) := HX.out.2.2.2.1
 have hres := HX.out.2.2.1
 generalize hrt : (⟨true, re, src, dst, a1, c1, x1, com, a2, c2, x2⟩ : Wt) = rt at *
 have HRT := Lib.hid hrt
 clear hrt
 have hsz : (Tryz.prog.info? 30).map (·.size) = some (wtA rt).size := by rw [infoPend]; rfl
 have h5 : (wtA rt).size = 7 := rfl
 have h1c := wtA_one rt
 have HA5 := Lib.hid (And.intro hsz (And.intro h5 h1c))
 clear hsz h5 h1c
 generalize hAA : wtA rt = AA at *
 have HAA := Lib.hid hAA
 clear hAA
 go_wp2_with first
  | refine wpList_load_row rfl 30 (.tmp 3) rfl BX AA 30 (0, 0) _ rfl hvar Tryz.underlying30 rfl HA5.out.1 ?_
  | refine wpList_store_row rfl 30 (.tmp 2) (.tmp 23) rfl R2 AA _ 30 rfl rfl hres HA5.out.1 (by rw [HA5.out.2.1]; rfl) HA5.out.2.2 ?_
 have hU6 := Upd.setRow (S := fun k => k = R2) y3 rfl AA
 have hnb := HN.out
 have hrow := setRow_heap _ _ _ AA _ _ hres
 refine ret_row rfl R2 AA 30 (0, 0) _ rfl hrow Tryz.underlying30 rfl HA5.out.1 rfl ⟨rt, by rw [HAA.out], by rw [← HRT.out], ?_, ?_, ?_, ?_, ?_⟩
 ·rw [← HRT.out, HS.out]
  unfold wtC
  dsimp only
  rw [← HC1.out, ← HC2.out, List.map_id]
 ·rw [← HRT.out]
  refine ⟨HV1.out.1.upd hU6 (fun g hg e => ?_), fun m hm => st_stays _ _ _ m (HV1.out.2.2 m hm).1 hU6 (fun g hg e => ?_), HV2.out.1.upd hU6 (fun g hg e => ?_)⟩
  ·have := HV1.out.2.1 g hg; omega
  ·have := (HV1.out.2.2 m hm).2 g hg; omega
  ·have := HV2.out.2.1 g hg; omega
 ·rw [← HRT.out]
  have z2 := hU6.size
  exact ⟨fun g hg => by have := HV1.out.2.1 g hg; omega, fun m hm g hg => by have := (HV1.out.2.2 m hm).2 g hg; omega, fun g hg => by have := HV2.out.2.1 g hg; omega⟩
 ·rw [HS.out]
  exact HX.out.1.upd hU6 (fun e => by omega) (fun g hg e => by have := HN.out.2.2.2.2.2.2.2.2.1 g hg; have := HW.out.1 g hg; have := HB.out; omega)
 ·exact HX.out.2.2.2.2.next hU6 (fun i hi e => by have := HB.out; omega)
set_option maxHeartbeats 8000000 in
theorem sPending_any (p q : Wt) (w : World) (hp : WtIn w p) (hq : WtIn w q) (hon : p.on = q.on) (he : wtC p = wtC q) :
  Calls Tryz.prog 22 #[.agg (wtA p), .agg (wtA q)] w fun e w' => e = .returned (.bool true) ∧ Upd (fun _ => False) w w' := by
 obtain ⟨on, re, src, dst, sa, sc, ss, com, ca, cc, cs⟩ := p
 obtain ⟨on2, re2, src2, dst2, sa2, sc2, ss2, com2, ca2, cc2, cs2⟩ := q
 unfold wtC at he
 simp only [WC.mk.injEq] at he hon
 obtain ⟨rfl, rfl, rfl, hss, rfl, rfl⟩ := he
 subst hon
 unfold wtA
 dsimp only
 have hU1 := Upd.alloc (fun _ => False) w (.cells #[.bool on, .bool re, .int .i64 src, .int .i64 dst, .slice sa ss.length sc, .int .i64 com, .slice ca cs.length cc] 30)
 have hU2 := Upd.alloc (fun _ => False) (w.alloc (.cells #[.bool on, .bool re, .int .i64 src, .int .i64 dst, .slice sa ss.length sc, .int .i64 com, .slice ca cs.length cc] 30)) (.cells #[.bool on, .bool re, .int .i64 src, .int .i64 dst, .slice sa2 ss2.length sc2, .int .i64 com, .slice ca2 cs.length cc2] 30)
 have hr1 := (hU2.block _ (lt_of_heap (heap_alloc_new w (.cells #[.bool on, .bool re, .int .i64 src, .int .i64 dst, .slice sa ss.length sc, .int .i64 com, .slice ca cs.length cc] 30))) (fun e => e)).trans (heap_alloc_new w (.cells #[.bool on, .bool re, .int .i64 src, .int .i64 dst, .slice sa ss.length sc, .int .i64 com, .slice ca cs.length cc] 30))
 have hr2 := heap_alloc_new (w.alloc (.cells #[.bool on, .bool re, .int .i64 src, .int .i64 dst, .slice sa ss.length sc, .int .i64 com, .slice ca cs.length cc] 30)) (.cells #[.bool on, .bool re, .int .i64 src, .int .i64 dst, .slice sa2 ss2.length sc2, .int .i64 com, .slice ca2 cs.length cc2] 30)
 have hU := hU1.trans hU2
 have hsz : (w.alloc (.cells #[.bool on, .bool re, .int .i64 src, .int .i64 dst, .slice sa ss.length sc, .int .i64 com, .slice ca cs.length cc] 30)).heap.size = w.heap.size + 1 := by simp
 rw [hsz] at hr2
 have h1 := hp.upd hU
 have k1 := hq.upd hU
 have HP := Lib.hid (And.intro hU (And.intro hr1 (And.intro hr2 (And.intro h1 (And.intro k1 hss)))))
 clear hU hr1 hr2 h1 k1 hU1 hU2 hsz hp hq hss
 go_enter Tryz.func22, Tryz.ntmps22
 go_upto_region 1 with (fail)
 obtain ⟨hU, hr1, hr2, h1, k1, hss⟩ := HP.out
 clear HP
 generalize (w.alloc (.cells #[.bool on, .bool re, .int .i64 src, .int .i64 dst, .slice sa ss.length sc, .int .i64 com, .slice ca cs.length cc] 30)).alloc (.cells #[.bool on, .bool re, .int .i64 src, .int .i64 dst, .slice sa2 ss2.length sc2, .int .i64 com, .slice ca2 cs.length cc2] 30) = y0 at *
 have hpl := sameSe_any sa sa2 sc sc2 ss ss2 y0 h1.sv k1.sv hss h1.se k1.se
 have HPC : Hid (∀ w', Upd (fun _ => False) y0 w' → Calls Tryz.prog 60 #[.slice ca cs.length cc, .slice ca2 cs.length cc2] w' fun e w'' => e = .returned (.bool true) ∧ Upd (fun _ => False) w' w'') := Lib.hid (fun w' hu => plainCl_any ca ca2 cc cc2 cs w' (h1.cv.upd hu (fun _ _ h => h)) (k1.cv.upd hu (fun _ _ h => h)))
 have HU := Lib.hid hU
 have HR := Lib.hid (And.intro hr1 hr2)
 have x0 : y0.cell? ⟨w.heap.size, 0, none⟩ = some (.bool on) := by rw [cell_of_row _ _ _ _ _ _ hr1]; rfl
 have x1 : y0.cell? ⟨w.heap.size, 1, none⟩ = some (.bool re) := by rw [cell_of_row _ _ _ _ _ _ hr1]; rfl
 have x2 : y0.cell? ⟨w.heap.size, 2, none⟩ = some (.int .i64 src) := by rw [cell_of_row _ _ _ _ _ _ hr1]; rfl
 have x3 : y0.cell? ⟨w.heap.size, 3, none⟩ = some (.int .i64 dst) := by rw [cell_of_row _ _ _ _ _ _ hr1]; rfl
 have x4 : y0.cell? ⟨w.heap.size, 4, none⟩ = some (.slice sa ss.length sc) := by rw [cell_of_row _ _ _ _ _ _ hr1]; rfl
 have x5 : y0.cell? ⟨w.heap.size, 5, none⟩ = some (.int .i64 com) := by rw [cell_of_row _ _ _ _ _ _ hr1]; rfl
 have x6 : y0.cell? ⟨w.heap.size, 6, none⟩ = some (.slice ca cs.length cc) := by rw [cell_of_row _ _ _ _ _ _ hr1]; rfl
 have z0 : y0.cell? ⟨w.heap.size + 1, 0, none⟩ = some (.bool on) := by rw [cell_of_row _ _ _ _ _ _ hr2]; rfl
 have z1 : y0.cell? ⟨w.heap.size + 1, 1, none⟩ = some (.bool re) := by rw [cell_of_row _ _ _ _ _ _ hr2]; rfl
 have z2 : y0.cell? ⟨w.heap.size + 1, 2, none⟩ = some (.int .i64 src) := by rw [cell_of_row _ _ _ _ _ _ hr2]; rfl
 have z3 : y0.cell? ⟨w.heap.size + 1, 3, none⟩ = some (.int .i64 dst) := by rw [cell_of_row _ _ _ _ _ _ hr2]; rfl
 have z4 : y0.cell? ⟨w.heap.size + 1, 4, none⟩ = some (.slice sa2 ss2.length sc2) := by rw [cell_of_row _ _ _ _ _ _ hr2]; rfl
 have z5 : y0.cell? ⟨w.heap.size + 1, 5, none⟩ = some (.int .i64 com) := by rw [cell_of_row _ _ _ _ _ _ hr2]; rfl
 have z6 : y0.cell? ⟨w.heap.size + 1, 6, none⟩ = some (.slice ca2 cs.length cc2) := by rw [cell_of_row _ _ _ _ _ _ hr2]; rfl
 clear hU h1 k1 hr1 hr2 hss
 generalize w.heap.size + 1 = Y2 at *
 generalize w.heap.size = Y1 at *
 go_wp2_with fail
 refine hpl.mono ?_
 rintro e w1 ⟨rfl, hV⟩
 have hs1 := (hV.block _ (lt_of_heap HR.out.1) (fun h => h)).trans HR.out.1
 have hs2 := (hV.block _ (lt_of_heap HR.out.2) (fun h => h)).trans HR.out.2
 have HV := Lib.hid hV
 have hpc := HPC.out w1 hV
 have HS := Lib.hid (And.intro hs1 hs2)
 clear x0 x1 x2 x3 x4 x5 x6 z0 z1 z2 z3 z4 z5 z6 hV hpl
 have x0 : w1.cell? ⟨Y1, 0, none⟩ = some (.bool on) := by rw [cell_of_row _ _ _ _ _ _ hs1]; rfl
 have x1 : w1.cell? ⟨Y1, 1, none⟩ = some (.bool re) := by rw [cell_of_row _ _ _ _ _ _ hs1]; rfl
 have x2 : w1.cell? ⟨Y1, 2, none⟩ = some (.int .i64 src) := by rw [cell_of_row _ _ _ _ _ _ hs1]; rfl
 have x3 : w1.cell? ⟨Y1, 3, none⟩ = some (.int .i64 dst) := by rw [cell_of_row _ _ _ _ _ _ hs1]; rfl
 have x4 : w1.cell? ⟨Y1, 4, none⟩ = some (.slice sa ss.length sc) := by rw [cell_of_row _ _ _ _ _ _ hs1]; rfl
 have x5 : w1.cell? ⟨Y1, 5, none⟩ = some (.int .i64 com) := by rw [cell_of_row _ _ _ _ _ _ hs1]; rfl
 have x6 : w1.cell? ⟨Y1, 6, none⟩ = some (.slice ca cs.length cc) := by rw [cell_of_row _ _ _ _ _ _ hs1]; rfl
 have z0 : w1.cell? ⟨Y2, 0, none⟩ = some (.bool on) := by rw [cell_of_row _ _ _ _ _ _ hs2]; rfl
 have z1 : w1.cell? ⟨Y2, 1, none⟩ = some (.bool re) := by rw [cell_of_row _ _ _ _ _ _ hs2]; rfl
 have z2 : w1.cell? ⟨Y2, 2, none⟩ = some (.int .i64 src) := by rw [cell_of_row _ _ _ _ _ _ hs2]; rfl
 have z3 : w1.cell? ⟨Y2, 3, none⟩ = some (.int .i64 dst) := by rw [cell_of_row _ _ _ _ _ _ hs2]; rfl
 have z4 : w1.cell? ⟨Y2, 4, none⟩ = some (.slice sa2 ss2.length sc2) := by rw [cell_of_row _ _ _ _ _ _ hs2]; rfl
 have z5 : w1.cell? ⟨Y2, 5, none⟩ = some (.int .i64 com) := by rw [cell_of_row _ _ _ _ _ _ hs2]; rfl
 have z6 : w1.cell? ⟨Y2, 6, none⟩ = some (.slice ca2 cs.length cc2) := by rw [cell_of_row _ _ _ _ _ _ hs2]; rfl
 clear hs1 hs2
 go_wp2_with fail
 refine hpc.mono ?_
 rintro e w2 ⟨rfl, hV2⟩
 have HZ := Lib.hid (HU.out.trans (HV.out.trans hV2))
 clear x0 x1 x2 x3 x4 x5 x6 z0 z1 z2 z3 z4 z5 z6 hV2 hpc
 go_wp2_with fail
 go_ret
 exact ⟨by first | rfl | simp, HZ.out⟩
end Go.Proofs.YtccejkikphpnfaaGreatDoor
