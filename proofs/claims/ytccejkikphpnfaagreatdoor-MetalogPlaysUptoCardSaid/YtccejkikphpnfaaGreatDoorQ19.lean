
/- A law on a statement whose order of evaluation is open, where again and again one of two operations that act may come first: a tree of plans. -/
import Derived.Test.YtccejkikphpnfaaGreatDoorQ18
namespace Go.Proofs.YtccejkikphpnfaaGreatDoor
set_option linter.unusedSimpArgs false
set_option linter.unusedVariables false
set_option maxRecDepth 100000
open Go.ChangeShapes Go.WideShapes Go.ChangeAt Go.RowKit
section
variable {X C : Type} {dec : X → List Value} {sz : Nat} {eT : TypeId} {ib : X → Option Nat} {inn : World → X → Prop} {T : TypeId} {row : Option Addr → Nat → Nat → Array Value} {br BX R1 : Nat} {F : Option Nat}
theorem Ph.start {w0 : World} {s : RS} (hR : Rd w0 br F s.l s.e) (hb : w0.heap[R1]? = some (.cells #[.pointer (some ⟨br, 0, none⟩)] 139)) (hv : w0.heap[BX]? = some (.cells (row none 0 0) T)) (n4 : R1 ≠ br) (n5 : BX ≠ br) (n6 : BX ≠ R1)
  (n7 : ∀ g, F = some g → g < w0.heap.size ∧ g ≠ BX) : Ph dec sz eT ib inn T row br BX R1 F w0 s [] none 0 w0 :=
 ⟨hR, hb, hv, World.ownsRow_nil _ _ _ _, (fun g hg => by cases hg), (fun x hx => by cases hx), Upd.refl _ _, by obtain ⟨a, c, hh, _⟩ := hR.ex; exact lt_of_heap hh, lt_of_heap hb, lt_of_heap hv, n4, n5, n6, n7⟩
theorem some_ph {f : RS → C × RS} (hf : Eats f) (con : X → C) (fid : Nat) (hent : ∀ args w, (callFunc fid args).run Tryz.prog w = .ok (.enter fid args) w) {wk : World} {s : RS} (hR : Rd wk br F s.l s.e) (hl : s.l.length ≤ 100000000) (hb : wk.heap[R1]? = some (.cells #[.pointer (some ⟨br, 0, none⟩)] 139)) (hv : wk.heap[BX]? = some (.cells (row none 0 0) T))
  (n4 : R1 ≠ br) (n5 : BX ≠ br) (n6 : BX ≠ R1) (n7 : ∀ g, F = some g → g < wk.heap.size ∧ g ≠ BX)
  (hstep : ∀ (w0 : World) (s' : RS) (xs : List X) (a : Option Addr) (c : Nat) (w' : World), Ph dec sz eT ib inn T row br BX R1 F w0 s' xs a c w' → s'.l.length ≤ 100000000 → xs.length ≤ 100000000 →
   Calls Tryz.prog fid #[.pointer (some ⟨BX, 0, none⟩), .pointer (some ⟨R1, 0, none⟩)] w' fun e w2 => e = .returned (.tuple #[]) ∧ ∃ x a' c', con x = (f s').1 ∧ Ph dec sz eT ib inn T row br BX R1 F w0 (f s').2 (xs ++ [x]) a' c' w2) :
  Calls Tryz.prog 130 #[.agg #[.pointer (some ⟨br, 0, none⟩)], .func (.func fid) #[] #[.pointer (some ⟨BX, 0, none⟩), .pointer (some ⟨R1, 0, none⟩)]] wk fun e w' => e = .returned (.tuple #[]) ∧
   ∃ w0 xs a c, Upd (fun k => k = br) wk w0 ∧ xs.map con = (someS f s).1 ∧ Ph dec sz eT ib inn T row br BX R1 F w0 (someS f s).2 xs a c w' := by
 refine (some_gen hf br BX F fid _ (hent _) s wk hR hl (lt_of_heap hv) (fun w0 L s' w' => ∃ xs a c, xs.map con = L ∧ Ph dec sz eT ib inn T row br BX R1 F w0 s' xs a c w')
  (fun w0 hu hR => ⟨[], none, 0, rfl, Ph.start hR ((hu.block R1 (lt_of_heap hb) n4).trans hb) ((hu.block BX (lt_of_heap hv) n5).trans hv) n4 n5 n6 (fun g hg => ⟨Nat.lt_of_lt_of_le (n7 g hg).1 hu.size, (n7 g hg).2⟩)⟩)
  (fun w0 L s' w' ⟨xs, a, c, h, hp⟩ => hp.rd) (fun w0 L s' w' ⟨xs, a, c, h, hp⟩ => hp.upd) (fun w0 L s' w' ⟨xs, a, c, h, hp⟩ he hls hn => ?_)).mono (fun e w' h => ?_)
 ·refine (hstep w0 s' xs a c w' hp hls (by rw [← h, List.length_map] at hn; exact hn)).mono (fun e w2 h2 => ?_)
  obtain ⟨h3, x, a', c', h4, h5⟩ := h2
  exact ⟨h3, xs ++ [x], a', c', by rw [List.map_append, h, ← h4]; rfl, h5⟩
 ·obtain ⟨h1, w0, h2, xs, a, c, h3, h4⟩ := h
  exact ⟨h1, w0, xs, a, c, h2, h3, h4⟩
/-- What a stage of reading leaves: a list in the variable's field, and what is in it, all new. -/
def Staged (dec : X → List Value) (sz : Nat) (ib : X → Option Nat) (inn : World → X → Prop) (T : TypeId) (row : Option Addr → Nat → Nat → Array Value) (br BX R1 : Nat) (F : Option Nat) (con : X → C) (L : List C) (s' : RS) (wk : World) (e : Ending) (w' : World) : Prop :=
 e = .returned (.tuple #[]) ∧ ∃ (xs : List X) (a : Option Addr) (c : Nat), xs.map con = L ∧ Rd w' br F s'.l s'.e ∧ w'.heap[R1]? = some (.cells #[.pointer (some ⟨br, 0, none⟩)] 139) ∧ w'.heap[BX]? = some (.cells (row a xs.length c) T) ∧ Vw w' a xs.length c sz (xs.flatMap dec) ∧ (∀ g, blk a = some g → BX < g ∧ g < w'.heap.size) ∧
  (∀ x ∈ xs, inn w' x ∧ ∀ g, ib x = some g → BX < g ∧ g < w'.heap.size) ∧ Upd (fun q => q = br ∨ q = BX) wk w'
theorem some_stage {f : RS → C × RS} (hf : Eats f) (con : X → C) (fid : Nat) (hent : ∀ args w, (callFunc fid args).run Tryz.prog w = .ok (.enter fid args) w) {wk : World} {s : RS} (hR : Rd wk br F s.l s.e) (hl : s.l.length ≤ 100000000) (hb : wk.heap[R1]? = some (.cells #[.pointer (some ⟨br, 0, none⟩)] 139)) (hv : wk.heap[BX]? = some (.cells (row none 0 0) T))
  (n4 : R1 ≠ br) (n5 : BX ≠ br) (n6 : BX ≠ R1) (n7 : ∀ g, F = some g → g < BX)
  (hstep : ∀ (w0 : World) (s' : RS) (xs : List X) (a : Option Addr) (c : Nat) (w' : World), Ph dec sz eT ib inn T row br BX R1 F w0 s' xs a c w' → s'.l.length ≤ 100000000 → xs.length ≤ 100000000 →
   Calls Tryz.prog fid #[.pointer (some ⟨BX, 0, none⟩), .pointer (some ⟨R1, 0, none⟩)] w' fun e w2 => e = .returned (.tuple #[]) ∧ ∃ x a' c', con x = (f s').1 ∧ Ph dec sz eT ib inn T row br BX R1 F w0 (f s').2 (xs ++ [x]) a' c' w2) :
  Calls Tryz.prog 130 #[.agg #[.pointer (some ⟨br, 0, none⟩)], .func (.func fid) #[] #[.pointer (some ⟨BX, 0, none⟩), .pointer (some ⟨R1, 0, none⟩)]] wk (Staged dec sz ib inn T row br BX R1 F con (someS f s).1 (someS f s).2 wk) := by
 have hbz := lt_of_heap hv
 refine (some_ph hf con fid hent hR hl hb hv n4 n5 n6 (fun g hg => by have := n7 g hg; omega) hstep).mono (fun e w' h => ?_)
 obtain ⟨h1, w0, xs, a, c, hU, hx, hP⟩ := h
 have hz := hU.size
 exact ⟨h1, xs, a, c, hx, hP.rd, hP.box, hP.var, Vw.of_own hP.own, fun g hg => ⟨by have := hP.fr g hg; omega, (hP.own.lt g ((own_blk _ _ _).trans hg)).2⟩, fun x hx => ⟨(hP.ind x hx).1, fun g hg => ⟨by have := ((hP.ind x hx).2 g hg).1; omega, ((hP.ind x hx).2 g hg).2.1⟩⟩, (hU.mono (fun _ _ e => .inl e)).trans hP.upd⟩
end
def rtC (r : Rt) : RC := ⟨r.p, r.ks, r.ms.map mkC, r.ns, r.k⟩
/-- Of all its blocks something is so. -/
structure RtBl (P : Nat → Prop) (r : Rt) : Prop where
 c : ∀ g, blk r.ca = some g → P g
 m : ∀ g, blk r.ma = some g → P g
 e : ∀ m ∈ r.ms, ∀ g, blk m.a = some g → P g
 n : ∀ g, blk r.na = some g → P g
theorem RtBl.mono {P Q : Nat → Prop} {r : Rt} (h : RtBl P r) (hPQ : ∀ g, P g → Q g) : RtBl Q r := ⟨fun g hg => hPQ g (h.c g hg), fun g hg => hPQ g (h.m g hg), fun m hm g hg => hPQ g (h.e m hm g hg), fun g hg => hPQ g (h.n g hg)⟩
theorem RtIn.updS {S : Nat → Prop} {w w' : World} {r : Rt} (h : RtIn w r) (hn : RtBl (fun g => ¬ S g) r) (hU : Upd S w w') : RtIn w' r :=
 ⟨h.cv.upd hU hn.c, h.mv.upd hU hn.m, fun m hm => Vw.upd (h.me m hm) hU (hn.e m hm), h.nv.upd hU hn.n, h.nl⟩
/-- What root leaves. -/
def GotRt (w : World) (br : Nat) (F : Option Nat) (s' : RS) (v : RC) (e : Ending) (w' : World) : Prop :=
 ∃ r : Rt, e = .returned (.agg (rtA r)) ∧ rtC r = v ∧ RtIn w' r ∧ RtBl (fun g => w.heap.size ≤ g ∧ g < w'.heap.size) r ∧ Rd w' br F s'.l s'.e ∧ Upd (fun k => k = br) w w'
theorem rtA_one (r : Rt) : (rtA r).all (·.oneCell') = true := by simp [rtA, Value.oneCell']
set_option maxHeartbeats 16000000 in
theorem mrroot_gen (br : Nat) (F : Option Nat) (s : RS) (w : World) (hr : Rd w br F s.l s.e) (hF : ∀ g, F = some g → g < w.heap.size) (hl : s.l.length ≤ 100000000) :
  Calls Tryz.prog 95 #[.agg #[.pointer (some ⟨br, 0, none⟩)]] w (GotRt w br F (rootS s).2 (rootS s).1) := by
 have hbr : br < w.heap.size := by
  obtain ⟨a, c, hh, _⟩ := hr.ex
  exact lt_of_heap hh
 have hU0 : Upd (fun _ => False) w ((w.alloc (.cells #[.pointer (some ⟨br, 0, none⟩)] 139)).alloc (.cells (rootA 0 none 0 0 0) 26)) := (Upd.alloc _ _ _).trans (Upd.alloc _ _ _)
 have hb1 : ((w.alloc (.cells #[.pointer (some ⟨br, 0, none⟩)] 139)).alloc (.cells (rootA 0 none 0 0 0) 26)).heap[w.heap.size]? = some (.cells #[.pointer (some ⟨br, 0, none⟩)] 139) := by
  rw [Below.heap_alloc _ _ _ (by simp)]; exact heap_alloc_new _ _
 have hb2 : ((w.alloc (.cells #[.pointer (some ⟨br, 0, none⟩)] 139)).alloc (.cells (rootA 0 none 0 0 0) 26)).heap[w.heap.size + 1]? = some (.cells (rootA 0 none 0 0 0) 26) := by
  have := heap_alloc_new (w.alloc (.cells #[.pointer (some ⟨br, 0, none⟩)] 139)) (.cells (rootA 0 none 0 0 0) 26)
  simpa using this
 unfold rootA at hU0 hb1 hb2
 have HA := Lib.hid (And.intro hU0 (And.intro hb1 hb2))
 have HW := Lib.hid (And.intro hr (And.intro hF hl))
 have hri := rint_any br F s _ (hr.upd hU0 (fun h => h) (fun _ _ h => h)) hl
 have HS : Hid (rootS s = (⟨intV s, (rS1 s).1, (rS2 s).1, (rS3 s).1, intV (rS3 s).2⟩, (takeS 4 (rS3 s).2).2)) := Lib.hid rfl
 have h1 : rS1 s = someS kyS (takeS 4 s).2 := rfl
 have h2 : rS2 s = someS mkS (rS1 s).2 := rfl
 have h3 : rS3 s = someS nmS (rS2 s).2 := rfl
 have l1 := takeS_len 4 s
 have l2 : (rS1 s).2.l.length ≤ (takeS 4 s).2.l.length := (some_goes ky_eats.toGoes).le _
 have l3 : (rS2 s).2.l.length ≤ (rS1 s).2.l.length := (some_goes mk_eats.toGoes).le _
 have l4 : (rS3 s).2.l.length ≤ (rS2 s).2.l.length := (some_goes nm_eats.toGoes).le _
 have l5 : ∀ x ∈ (rS3 s).1, x.name.length ≤ (rS2 s).2.l.length := nm_long _
 generalize rootS s = SS at *
 generalize intV s = p at *
 generalize (takeS 4 s).2 = s1 at *
 generalize rS1 s = q1 at *
 generalize rS2 s = q2 at *
 generalize rS3 s = q3 at *
 have HM := Lib.hid (And.intro h1 (And.intro h2 h3))
 have HL := Lib.hid (And.intro l1 (And.intro l2 (And.intro l3 (And.intro l4 l5))))
 clear hU0 hb1 hb2 hr hF h1 h2 h3 l1 l2 l3 l4 l5
 go_enter Tryz.func95, Tryz.ntmps95
 go_upto_region 1 with (fail)
 generalize (w.alloc (.cells #[.pointer (some ⟨br, 0, none⟩)] 139)).alloc (.cells #[.int .i64 0, .slice none 0 0, .slice none 0 0, .slice none 0 0, .int .i64 0] 26) = y0 at *
 obtain ⟨R1, hR1⟩ : ∃ B, B = w.heap.size := ⟨_, rfl⟩
 obtain ⟨R2, hR2⟩ : ∃ B, B = w.heap.size + 1 := ⟨_, rfl⟩
 rw [← hR2, ← hR1] at HA
 rw [← hR2, ← hR1]
 have HB := Lib.hid (And.intro hR1 (And.intro hR2 hbr))
 clear hR1 hR2 hbr
 have q : y0.cell? ⟨R1, 0, none⟩ = some (.pointer (some ⟨br, 0, none⟩)) := by rw [cell_of_row _ _ _ _ _ _ HA.out.2.1]; rfl
 go_wp2_with fail
 refine hri.mono ?_
 unfold ReadN
 rintro e w1 ⟨rfl, hR, hU⟩
 have hb1 := (hU.block R1 (lt_of_heap HA.out.2.1) (by have := HB.out; omega)).trans HA.out.2.1
 have hb2 := (hU.block R2 (lt_of_heap HA.out.2.2) (by have := HB.out; omega)).trans HA.out.2.2
 have hUw := (HA.out.1.mono (T := fun k => k = br) (fun _ _ h => h.elim)).trans hU
 have HA1 := Lib.hid (And.intro hR (And.intro hb1 (And.intro hb2 hUw)))
 have hz1 := lt_of_heap hb2
 have HZ1 := Lib.hid hz1
 clear hR hb1 hb2 hUw hz1 hU HA q hri
 go_upto_region 2 with (fail)
 have hUx := Upd.alloc (fun _ => False) w1 (.cells #[.int .i64 p, .slice none 0 0, .slice none 0 0, .slice none 0 0, .int .i64 0] 26)
 have hbx := heap_alloc_new w1 (.cells #[.int .i64 p, .slice none 0 0, .slice none 0 0, .slice none 0 0, .int .i64 0] 26)
 have hx1 := (hUx.block R1 (lt_of_heap HA1.out.2.1) (fun h => h)).trans HA1.out.2.1
 have hx2 := (hUx.block R2 (lt_of_heap HA1.out.2.2.1) (fun h => h)).trans HA1.out.2.2.1
 have HX := Lib.hid (And.intro (HA1.out.1.upd hUx (fun h => h) (fun _ _ h => h)) (And.intro hx1 (And.intro hx2 (And.intro hbx (HA1.out.2.2.2.trans (hUx.mono (T := fun k => k = br) (fun _ _ h => h.elim)))))))
 have hz1 := HA1.out.2.2.2.size
 have HN : Hid (R1 ≠ br ∧ w1.heap.size ≠ br ∧ w1.heap.size ≠ R1 ∧ R2 ≠ br ∧ R2 ≠ w1.heap.size ∧ R2 < w1.heap.size ∧ br < w1.heap.size ∧ w.heap.size ≤ w1.heap.size ∧ (∀ g, F = some g → g < w1.heap.size) ∧ R1 < R2) := Lib.hid (by
  have b := HB.out; have z := HZ1.out
  refine ⟨by omega, by omega, by omega, by omega, by omega, by omega, by omega, by omega, fun g hg => ?_, by omega⟩
  have := HW.out.2.1 g hg; omega)
 clear hUx hbx hx1 hx2 HA1 HZ1 hz1
 generalize w1.alloc (.cells #[.int .i64 p, .slice none 0 0, .slice none 0 0, .slice none 0 0, .int .i64 0] 26) = y1 at *
 generalize w1.heap.size = BX at *
 have q : y1.cell? ⟨R1, 0, none⟩ = some (.pointer (some ⟨br, 0, none⟩)) := by rw [cell_of_row _ _ _ _ _ _ HX.out.2.1]; rfl
 have hsm := some_stage (X := Ky) (dec := kyV) (sz := 32) (eT := 52) (ib := (fun _ => none)) (inn := (fun _ _ => True)) (T := 26) (row := fun a n c => #[.int .i64 p, .slice a n c, .slice none 0 0, .slice none 0 0, .int .i64 0]) (br := br) (BX := BX) (R1 := R1) (F := F) ky_eats id 131 (enter_of Tryz.func131 (by kernel_rfl) (by kernel_rfl)) HX.out.1 (Nat.le_trans HL.out.1 HW.out.2.2) HX.out.2.1 HX.out.2.2.2.1 HN.out.1 HN.out.2.1 HN.out.2.2.1 HN.out.2.2.2.2.2.2.2.2.1
  (fun w0 s' xs a c w' hp hls hn => (root1_gen hp (fun _ _ _ => rfl) (fun _ _ _ _ _ _ => rfl) hls hn).mono (fun e w2 h => by obtain ⟨h1, a', c', h2⟩ := h; exact ⟨h1, _, a', c', rfl, h2⟩))
 rw [← HM.out.1] at hsm
 go_wp2_with fail
 refine hsm.mono ?_
 rintro e y2 ⟨rfl, x1, a1, c1, hx, hR, hb1, hbx, hv, hfr, hin, hU⟩
 have hr2 := (hU.block R2 (lt_of_heap HX.out.2.2.1) (fun e => by have := HN.out; omega)).trans HX.out.2.2.1
 have hUw := HX.out.2.2.2.2.next hU (fun i hi e => by have := HN.out; rcases e with e | e <;> omega)
 have HV1 := Lib.hid (And.intro hv (And.intro hfr hin))
 have HC1 := Lib.hid hx
 clear HX
 have HX := Lib.hid (And.intro hR (And.intro hb1 (And.intro hr2 (And.intro hbx hUw))))
 clear hR hb1 hr2 hbx hUw hv hfr hin hx hU hsm q
 have q : y2.cell? ⟨R1, 0, none⟩ = some (.pointer (some ⟨br, 0, none⟩)) := by rw [cell_of_row _ _ _ _ _ _ HX.out.2.1]; rfl
 have hsm := some_stage (X := Mk) (dec := mkV) (sz := 2) (eT := 77) (ib := mkBl) (inn := MkIn) (T := 26) (row := fun a n c => #[.int .i64 p, .slice a1 x1.length c1, .slice a n c, .slice none 0 0, .int .i64 0]) (br := br) (BX := BX) (R1 := R1) (F := F) mk_eats mkC 133 (enter_of Tryz.func133 (by kernel_rfl) (by kernel_rfl)) HX.out.1 (Nat.le_trans HL.out.2.1 (Nat.le_trans HL.out.1 HW.out.2.2)) HX.out.2.1 HX.out.2.2.2.1 HN.out.1 HN.out.2.1 HN.out.2.2.1 HN.out.2.2.2.2.2.2.2.2.1
  (fun w0 s' xs a c w' hp hls hn => (root2_gen hp (fun _ _ _ => rfl) (fun _ _ _ _ _ _ => rfl) hls hn).mono (fun e w2 h => h))
 rw [← HM.out.2.1] at hsm
 go_wp2_with fail
 refine hsm.mono ?_
 rintro e y3 ⟨rfl, x2, a2, c2, hx, hR, hb1, hbx, hv, hfr, hin, hU⟩
 have hr2 := (hU.block R2 (lt_of_heap HX.out.2.2.1) (fun e => by have := HN.out; omega)).trans HX.out.2.2.1
 have hUw := HX.out.2.2.2.2.next hU (fun i hi e => by have := HN.out; rcases e with e | e <;> omega)
 have HV1 := Lib.hid (And.intro (HV1.out.1.upd hU (fun g hg e => by have := HV1.out.2.1 g hg; have := HN.out; rcases e with e | e <;> omega)) (And.intro (fun g hg => And.intro (HV1.out.2.1 g hg).1 (Nat.lt_of_lt_of_le (HV1.out.2.1 g hg).2 hU.size)) HV1.out.2.2))
 have HV2 := Lib.hid (And.intro hv (And.intro hfr hin))
 have HC2 := Lib.hid hx
 clear HX
 have HX := Lib.hid (And.intro hR (And.intro hb1 (And.intro hr2 (And.intro hbx hUw))))
 clear hR hb1 hr2 hbx hUw hv hfr hin hx hU hsm q
 have q : y3.cell? ⟨R1, 0, none⟩ = some (.pointer (some ⟨br, 0, none⟩)) := by rw [cell_of_row _ _ _ _ _ _ HX.out.2.1]; rfl
 have hsm := some_stage (X := Nm) (dec := nmV) (sz := 2) (eT := 92) (ib := (fun _ => none)) (inn := (fun _ _ => True)) (T := 26) (row := fun a n c => #[.int .i64 p, .slice a1 x1.length c1, .slice a2 x2.length c2, .slice a n c, .int .i64 0]) (br := br) (BX := BX) (R1 := R1) (F := F) nm_eats id 135 (enter_of Tryz.func135 (by kernel_rfl) (by kernel_rfl)) HX.out.1 (Nat.le_trans HL.out.2.2.1 (Nat.le_trans HL.out.2.1 (Nat.le_trans HL.out.1 HW.out.2.2))) HX.out.2.1 HX.out.2.2.2.1 HN.out.1 HN.out.2.1 HN.out.2.2.1 HN.out.2.2.2.2.2.2.2.2.1
  (fun w0 s' xs a c w' hp hls hn => (root3_gen hp (fun _ _ _ => rfl) (fun _ _ _ _ _ _ => rfl) hls hn).mono (fun e w2 h => by obtain ⟨h1, a', c', h2⟩ := h; exact ⟨h1, _, a', c', rfl, h2⟩))
 rw [← HM.out.2.2] at hsm
 go_wp2_with fail
 refine hsm.mono ?_
 rintro e y4 ⟨rfl, x3, a3, c3, hx, hR, hb1, hbx, hv, hfr, hin, hU⟩
 have hr2 := (hU.block R2 (lt_of_heap HX.out.2.2.1) (fun e => by have := HN.out; omega)).trans HX.out.2.2.1
 have hUw := HX.out.2.2.2.2.next hU (fun i hi e => by have := HN.out; rcases e with e | e <;> omega)
 have HV1 := Lib.hid (And.intro (HV1.out.1.upd hU (fun g hg e => by have := HV1.out.2.1 g hg; have := HN.out; rcases e with e | e <;> omega)) (And.intro (fun g hg => And.intro (HV1.out.2.1 g hg).1 (Nat.lt_of_lt_of_le (HV1.out.2.1 g hg).2 hU.size)) HV1.out.2.2))
 have HV2 := Lib.hid (And.intro (HV2.out.1.upd hU (fun g hg e => by have := HV2.out.2.1 g hg; have := HN.out; rcases e with e | e <;> omega)) (And.intro (fun g hg => And.intro (HV2.out.2.1 g hg).1 (Nat.lt_of_lt_of_le (HV2.out.2.1 g hg).2 hU.size)) (fun x hx => And.intro (mk_stays _ _ _ x (HV2.out.2.2 x hx).1 hU (fun g hg e => by have := (HV2.out.2.2 x hx).2 g hg; have := HN.out; rcases e with e | e <;> omega)) (fun g hg => And.intro ((HV2.out.2.2 x hx).2 g hg).1 (Nat.lt_of_lt_of_le ((HV2.out.2.2 x hx).2 g hg).2 hU.size)))))
 have HV3 := Lib.hid (And.intro hv (And.intro hfr hin))
 have HC3 := Lib.hid hx
 clear HX
 have HX := Lib.hid (And.intro hR (And.intro hb1 (And.intro hr2 (And.intro hbx hUw))))
 clear hR hb1 hr2 hbx hUw hv hfr hin hx hU hsm q
 have q : y4.cell? ⟨R1, 0, none⟩ = some (.pointer (some ⟨br, 0, none⟩)) := by rw [cell_of_row _ _ _ _ _ _ HX.out.2.1]; rfl
 have hri := rint_any br F q3.2 y4 HX.out.1 (Nat.le_trans HL.out.2.2.2.1 (Nat.le_trans HL.out.2.2.1 (Nat.le_trans HL.out.2.1 (Nat.le_trans HL.out.1 HW.out.2.2))))
 have hSS := HS.out
 generalize intV q3.2 = k at *
 generalize (takeS 4 q3.2).2 = s4 at *
 have HSS := Lib.hid hSS
 clear HS hSS
 go_wp2_with fail
 refine hri.mono ?_
 unfold ReadN
 rintro e y5 ⟨rfl, hR, hU⟩
 have hbx := (hU.block BX (lt_of_heap HX.out.2.2.2.1) HN.out.2.1).trans HX.out.2.2.2.1
 have hr2 := (hU.block R2 (lt_of_heap HX.out.2.2.1) HN.out.2.2.2.1).trans HX.out.2.2.1
 have hUw := HX.out.2.2.2.2.trans hU
 have hnb := HN.out
 have v1 := HV1.out.1.upd hU (fun g hg e => by have := HV1.out.2.1 g hg; omega)
 have v2 := HV2.out.1.upd hU (fun g hg e => by have := HV2.out.2.1 g hg; omega)
 have i2 : ∀ x ∈ x2, MkIn y5 x := fun x hx => mk_stays _ _ _ x (HV2.out.2.2 x hx).1 hU (fun g hg e => by have := (HV2.out.2.2 x hx).2 g hg; omega)
 have v3 := HV3.out.1.upd hU (fun g hg e => by have := HV3.out.2.1 g hg; omega)
 have HYZ := Lib.hid hU.size
 have HY := Lib.hid (And.intro hR (And.intro hr2 (And.intro hbx (And.intro hUw (And.intro v1 (And.intro v2 (And.intro i2 v3)))))))
 clear hR hU hbx hr2 hUw v1 v2 i2 v3 hri q HX hnb
 have hc4 : y5.cell? ⟨BX, 4, none⟩ = some (.int .i64 0) := by rw [cell_of_row _ _ _ _ _ _ HY.out.2.2.1]; rfl
 have hf4 : y5.frozen? ⟨BX, 4, none⟩ = false := free_row HY.out.2.2.1
 go_upto_region 6 with (fail)
 have hU5 := Upd.setCell (S := fun q => q = BX) y5 (p := ⟨BX, 4, none⟩) rfl (.int .i64 k)
 have hvar : (y5.setCell ⟨BX, 4, none⟩ (.int .i64 k)).heap[BX]? = some (.cells (rtA ⟨p, a1, c1, x1, a2, c2, x2, a3, c3, x3, k⟩) 26) := by
  rw [setCell_heap 4 (.int .i64 k) HY.out.2.2.1]; rfl
 have hres := (hU5.block R2 (lt_of_heap HY.out.2.1) HN.out.2.2.2.2.1).trans HY.out.2.1
 have HU5 := Lib.hid hU5
 clear hc4 hf4 hU5
 generalize y5.setCell ⟨BX, 4, none⟩ (.int .i64 k) = y6 at *
 generalize hrt : (⟨p, a1, c1, x1, a2, c2, x2, a3, c3, x3, k⟩ : Rt) = rt at *
 have HRT := Lib.hid hrt
 clear hrt
 have hsz : (Tryz.prog.info? 26).map (·.size) = some (rtA rt).size := by rw [infoRoot]; rfl
 have h5 : (rtA rt).size = 5 := rfl
 have h1c := rtA_one rt
 have HA5 := Lib.hid (And.intro hsz (And.intro h5 h1c))
 clear hsz h5 h1c
 generalize hAA : rtA rt = AA at *
 have HAA := Lib.hid hAA
 clear hAA
 go_wp2_with first
  | refine wpList_load_row rfl 26 (.tmp 3) rfl BX AA 26 (0, 0) _ rfl hvar Tryz.underlying26 rfl HA5.out.1 ?_
  | refine wpList_store_row rfl 26 (.tmp 2) (.tmp 21) rfl R2 AA _ 26 rfl rfl hres HA5.out.1 (by rw [HA5.out.2.1]; rfl) HA5.out.2.2 ?_
 have hU6 := Upd.setRow (S := fun k => k = R2) y6 rfl AA
 have hUx : Upd (fun q => q = BX ∨ q = R2) y5 (y6.setRow R2 AA) := (HU5.out.mono (T := fun q => q = BX ∨ q = R2) (fun _ _ e => .inl e)).trans (hU6.mono (fun _ _ e => .inr e))
 have hnb := HN.out
 have hrow := setRow_heap _ _ _ AA _ _ hres
 refine ret_row rfl R2 AA 26 (0, 0) _ rfl hrow Tryz.underlying26 rfl HA5.out.1 rfl ⟨rt, by rw [HAA.out], ?_, ?_, ?_, ?_, ?_⟩
 ·rw [← HRT.out, HSS.out]
  unfold rtC
  dsimp only
  rw [← HC1.out, ← HC2.out, ← HC3.out, List.map_id, List.map_id]
 ·rw [← HRT.out]
  refine ⟨HY.out.2.2.2.2.1.upd hUx (fun g hg e => ?_), HY.out.2.2.2.2.2.1.upd hUx (fun g hg e => ?_), fun m hm => mk_stays _ _ _ m (HY.out.2.2.2.2.2.2.1 m hm) hUx (fun g hg e => ?_), HY.out.2.2.2.2.2.2.2.upd hUx (fun g hg e => ?_), fun x hx => ?_⟩
  ·have := HV1.out.2.1 g hg; omega
  ·have := HV2.out.2.1 g hg; omega
  ·have := (HV2.out.2.2 m hm).2 g hg; omega
  ·have := HV3.out.2.1 g hg; omega
  ·have h5 := HL.out.2.2.2.2 x (by rw [← HC3.out, List.map_id]; exact hx)
   have l1 := HL.out.1; have l2 := HL.out.2.1; have l3 := HL.out.2.2.1; have l0 := HW.out.2.2
   unfold maxLen; omega
 ·rw [← HRT.out]
  have z1 := HYZ.out
  have z2 := hUx.size
  exact ⟨fun g hg => by have := HV1.out.2.1 g hg; omega, fun g hg => by have := HV2.out.2.1 g hg; omega, fun m hm g hg => by have := (HV2.out.2.2 m hm).2 g hg; omega, fun g hg => by have := HV3.out.2.1 g hg; omega⟩
 ·rw [HSS.out]
  exact HY.out.1.upd hUx (fun e => by omega) (fun g hg e => by have := HN.out.2.2.2.2.2.2.2.2.1 g hg; have := HW.out.2.1 g hg; have := HB.out; omega)
 ·exact HY.out.2.2.2.1.next hUx (fun i hi e => by have := HB.out; omega)
inductive PT where
 | last (l : List Nat)
 | one (seg : List Nat) (e : Nat) (t : PT)
 | two (seg : List Nat) (e1 : Nat) (t1 : PT) (e2 : Nat) (t2 : PT)
section
variable {P : Program} {ops : Array Oper} {Q : Exit → Act → World → Prop} {md : Region.Mode} {S : World → Prop}
def treeWp (P : Program) (ops : Array Oper) (Q : Exit → Act → World → Prop) (S : World → Prop) : PT → Act → World → Prop
 | .last l, a, w => takes P ops S l (fun A => Q .normal A w) a
 | .one sg e t, a, w => takes P ops S sg (fun A => ∃ o, ops[e]? = some o ∧ wpList P ops (Exit.then (fun a' w' => S w' ∧ treeWp P ops Q S t a' w') (calmQ Q)) [o] A w) a
 | .two sg e1 t1 e2 t2, a, w => takes P ops S sg (fun A => (∃ o, ops[e1]? = some o ∧ wpList P ops (Exit.then (fun a' w' => S w' ∧ treeWp P ops Q S t1 a' w') (calmQ Q)) [o] A w) ∧
   (∃ o, ops[e2]? = some o ∧ wpList P ops (Exit.then (fun a' w' => S w' ∧ treeWp P ops Q S t2 a' w') (calmQ Q)) [o] A w)) a
def treeOk (md : Region.Mode) (ops : Array Oper) : PT → Array Bool → Bool
 | .last l, listed => takesOk md ops l listed && (Region.ready md ops (marked l listed)).isEmpty
 | .one sg e t, listed => takesOk md ops sg listed && (Region.ready md ops (marked sg listed) == [e]) && treeOk md ops t ((marked sg listed).setIfInBounds e true)
 | .two sg e1 t1 e2 t2, listed => takesOk md ops sg listed && (Region.ready md ops (marked sg listed) == [e1, e2]) && treeOk md ops t1 ((marked sg listed).setIfInBounds e1 true) && treeOk md ops t2 ((marked sg listed).setIfInBounds e2 true)
def treeSize : PT → Nat
 | .last l => l.length
 | .one sg _ t => sg.length + 1 + treeSize t
 | .two sg _ t1 _ _ => sg.length + 1 + treeSize t1
def treeEven : PT → Bool
 | .last _ => true
 | .one _ _ t => treeEven t
 | .two _ _ t1 _ t2 => (treeSize t1 == treeSize t2) && treeEven t1 && treeEven t2
theorem tree_sound (hs : Region.noSelect ops = true) : ∀ (t : PT) (listed : Array Bool) (a : Act) (w : World), listed.size = ops.size → Down md ops listed → treeOk md ops t listed = true → treeEven t = true →
   S w → treeWp P ops Q S t a w → wpAnyX P md ops (calmQ Q) S ops.size (treeSize t) listed a w := by
 have hex : ∀ listed : Array Bool, listed.size = ops.size → Down md ops listed → ops.size ∈ Region.ready md ops listed → ∀ k, k < ops.size → listed.getD k true = false → k = ops.size := by
  intro l _ _ hx
  obtain ⟨_, o, ho, _⟩ := mem_ready.1 hx
  have := (Array.getElem?_eq_some_iff.1 ho).1
  omega
 have hlt : ∀ {i : Nat} {o : Oper}, ops[i]? = some o → i ≠ ops.size := fun ho e => by
  have := (Array.getElem?_eq_some_iff.1 ho).1
  omega
 intro t
 induction t with
 | last l =>
  intro listed a w h1 h2 hok _ hS h
  simp only [treeOk, Bool.and_eq_true, List.isEmpty_iff] at hok
  have := takes_sound (P := P) (Q := calmQ Q) (S := S) hs (fun _ _ _ h => h) hex 0 l listed a w (fun A => Q .normal A w) h1 h2 hok.1 hS (fun A _ _ hA => ⟨hok.2, hA⟩) h
  simpa [treeSize] using this
 | one sg e t ih =>
  intro listed a w h1 h2 hok hev hS h
  simp only [treeOk, Bool.and_eq_true, beq_iff_eq] at hok
  obtain ⟨⟨hok1, hok2⟩, hok3⟩ := hok
  rw [show treeSize (.one sg e t) = sg.length + (treeSize t + 1) from by simp [treeSize]; omega]
  refine takes_sound (P := P) (Q := calmQ Q) (S := S) hs (fun _ _ _ h => h) hex (treeSize t + 1) sg listed a w _ h1 h2 hok1 hS ?_ h
  intro A hz hd hN
  obtain ⟨o, ho, hA⟩ := hN
  refine ⟨fun h0 => (by rw [hok2] at h0; cases h0), fun i hi => ?_⟩
  have hmem := hi
  rw [hok2, List.mem_singleton] at hi
  subst hi
  refine wpOp_mono (fun a' w' h3 => ⟨.inr h3.1, ?_⟩) (wpOp_of_list ho hA)
  exact ih _ a' w' (by simpa using hz) (hd.next hmem) hok3 hev h3.1 h3.2
 | two sg e1 t1 e2 t2 ih1 ih2 =>
  intro listed a w h1 h2 hok hev hS h
  simp only [treeOk, Bool.and_eq_true, beq_iff_eq] at hok
  simp only [treeEven, Bool.and_eq_true, beq_iff_eq] at hev
  obtain ⟨⟨⟨hok1, hok2⟩, hok3⟩, hok4⟩ := hok
  rw [show treeSize (.two sg e1 t1 e2 t2) = sg.length + (treeSize t1 + 1) from by simp [treeSize]; omega]
  refine takes_sound (P := P) (Q := calmQ Q) (S := S) hs (fun _ _ _ h => h) hex (treeSize t1 + 1) sg listed a w _ h1 h2 hok1 hS ?_ h
  intro A hz hd hN
  obtain ⟨⟨o1, ho1, hA1⟩, o2, ho2, hA2⟩ := hN
  refine ⟨fun h0 => (by rw [hok2] at h0; cases h0), fun i hi => ?_⟩
  have hmem := hi
  rw [hok2] at hi
  simp only [List.mem_cons, List.not_mem_nil, or_false] at hi
  rcases hi with rfl | rfl
  ·refine wpOp_mono (fun a' w' h3 => ⟨.inr h3.1, ?_⟩) (wpOp_of_list ho1 hA1)
   exact ih1 _ a' w' (by simpa using hz) (hd.next hmem) hok3 hev.1.2 h3.1 h3.2
  ·refine wpOp_mono (fun a' w' h3 => ⟨.inr h3.1, ?_⟩) (wpOp_of_list ho2 hA2)
   rw [hev.1.1]
   exact ih2 _ a' w' (by simpa using hz) (hd.next hmem) hok4 hev.2 h3.1 h3.2
/-- THE LAW. -/
theorem wp_region_tree {id : Nat} {a : Act} {w : World} (t : PT) (S : World → Prop) (hm : P.follows .mixedOrders = true)
  (hok : (Region.noSelect ops && treeOk .any ops t (Array.replicate ops.size false) && treeSize t == ops.size && treeEven t) = true) (hS : S w.drew)
  (h : treeWp P ops Q S t a w.drew) : (Code.region id ops true).wp P Q a w := by
 simp only [Bool.and_eq_true, beq_iff_eq] at hok
 obtain ⟨⟨⟨h1, h3⟩, h4⟩, h5⟩ := hok
 have key := tree_sound (P := P) (S := S) h1 t (Array.replicate ops.size false) a _ (by simp) (down_none _) h3 h5 hS h
 rw [h4] at key
 exact Code.wp_mono calmQ_imp (wp_region_any hm (wpAny_of_X (S := S) (ex := ops.size) _ _ _ _ key))
/-! The moves -/
theorem tree_take {i e : Nat} {r : List Nat} {t : PT} {a : Act} {w : World} {o : Oper} {v : Value} (ho : ops[i]? = some o) (hw : Region.wanted o (yielded ops a.tmps) = true)
  (hy : ∀ w', S w' → (execOp a.eval o).run P w' = .ok (.value v) w') (h : treeWp P ops Q S (.one r e t) (a.put o.dst v) w) : treeWp P ops Q S (.one (i :: r) e t) a w :=
 ⟨o, v, ho, .inl ⟨hw, hy⟩, h⟩
theorem tree_take2 {i e1 e2 : Nat} {r : List Nat} {t1 t2 : PT} {a : Act} {w : World} {o : Oper} {v : Value} (ho : ops[i]? = some o) (hw : Region.wanted o (yielded ops a.tmps) = true)
  (hy : ∀ w', S w' → (execOp a.eval o).run P w' = .ok (.value v) w') (h : treeWp P ops Q S (.two r e1 t1 e2 t2) (a.put o.dst v) w) : treeWp P ops Q S (.two (i :: r) e1 t1 e2 t2) a w :=
 ⟨o, v, ho, .inl ⟨hw, hy⟩, h⟩
theorem tree_end {a : Act} {w : World} (h : Q .normal a w) : treeWp P ops Q S (.last []) a w := h
theorem tree_act {e : Nat} {t : PT} {a : Act} {w : World} {o : Oper} (ho : ops[e]? = some o)
  (h : ∀ K : Act → World → Prop, Shut (∀ a' w', S w' → treeWp P ops Q S t a' w' → K a' w') → wpList P ops (Exit.then K (calmQ Q)) [o] a w) : treeWp P ops Q S (.one [] e t) a w :=
 ⟨o, ho, h _ (fun _ _ h1 h2 => ⟨h1, h2⟩)⟩
theorem tree_both {e1 e2 : Nat} {t1 t2 : PT} {a : Act} {w : World} (h1 : treeWp P ops Q S (.one [] e1 t1) a w) (h2 : treeWp P ops Q S (.one [] e2 t2) a w) : treeWp P ops Q S (.two [] e1 t1 e2 t2) a w :=
 ⟨h1, h2⟩
end
end Go.Proofs.YtccejkikphpnfaaGreatDoor
