
/- The reference's writer: a row of bytes in memory of the call's own, appended to. -/
import Derived.Test.YtccejkikphpnfaaGreatDoorQ36
import Derived.Test.YtccejkikphpnfaaGreatDoorQ37
namespace Go.Proofs.YtccejkikphpnfaaGreatDoor
set_option linter.unusedSimpArgs false
set_option linter.unusedVariables false
set_option maxRecDepth 100000
open Go.ChangeShapes Go.WideShapes Go.ChangeAt Go.RowKit
theorem waitB_bad (p : Wt) (h : p.on = false ∨ numB p.src = false ∨ numB p.dst = false ∨ numB p.com = false ∨ 2000 < p.ss.length ∨ 100 < p.cs.length ∨ p.ss.any badS = true ∨ p.cs.any badC = true) : waitB p = false := by
 cases hb : waitB p with
 | false => rfl
 | true =>
  exfalso
  simp only [waitB, Bool.and_eq_true, decide_eq_true_eq, Bool.not_eq_true'] at hb
  obtain ⟨h1, h2, h3, h4, h5, h6, h7, h8⟩ := hb
  rcases h with h | h | h | h | h | h | h | h
  ·rw [h1] at h; cases h
  ·rw [h2] at h; cases h
  ·rw [h3] at h; cases h
  ·rw [h4] at h; cases h
  ·omega
  ·omega
  ·rw [h7] at h; cases h
  ·rw [h8] at h; cases h
theorem waitB_ok (p : Wt) (h1 : p.on = true) (h2 : numB p.src = true) (h3 : numB p.dst = true) (h4 : numB p.com = true) (h5 : ¬ 2000 < p.ss.length) (h6 : ¬ 100 < p.cs.length) (h7 : p.ss.any badS = false) (h8 : p.cs.any badC = false) : waitB p = true := by
 simp only [waitB, Bool.and_eq_true, decide_eq_true_eq, Bool.not_eq_true']
 exact ⟨h1, h2, h3, h4, by omega, by omega, h7, h8⟩
set_option maxHeartbeats 32000000 in
theorem waitMay_any (p : Wt) (w : World) (h : WtIn w p) : Calls Tryz.prog 55 #[.agg (wtA p)] w fun e w' => e = .returned (.bool (waitB p)) ∧ Upd (fun _ => False) w w' := by
 have hU := Upd.alloc (fun _ => False) w (.cells (wtA p) 30)
 have hrow := heap_alloc_new w (.cells (wtA p) 30)
 have hb := waitB_bad p
 have hok := waitB_ok p
 generalize waitB p = R at *
 obtain ⟨on, re, src, dst, sa, sc, ss, com, ca, cc, cs⟩ := p
 unfold wtA at *
 dsimp only at *
 have hcm := h.sv.cap
 have hlm := h.sv.le
 have hcn := h.cv.cap
 have hln := h.cv.le
 unfold maxLen at hcm hcn
 dsimp only at hcm hlm hcn hln
 have HI := Lib.hid h
 have HF1 : Hid (on = false ∨ numB src = false ∨ numB dst = false ∨ numB com = false ∨ 2000 < ss.length ∨ 100 < cs.length → R = false) := Lib.hid (fun h => hb (by rcases h with h | h | h | h | h | h <;> simp [h]))
 have HF2 : Hid (ss.any badS = true → R = false) := Lib.hid (fun h => hb (.inr (.inr (.inr (.inr (.inr (.inr (.inl h))))))))
 have HF3 : Hid (cs.any badC = true → R = false) := Lib.hid (fun h => hb (.inr (.inr (.inr (.inr (.inr (.inr (.inr h))))))))
 have HOK := Lib.hid hok
 have HNU : Hid (∀ v w', Calls Tryz.prog 85 #[.int .i64 v] w' fun e w2 => e = .returned (.bool (numB v)) ∧ w' = w2) := Lib.hid (fun v w' => rnumber_any v w')
 have HU0 := Lib.hid hU
 have HR0 := Lib.hid hrow
 clear hU hrow hb hok h
 go_enter Tryz.func55, Tryz.ntmps55
 go_upto_region 1 with (fail)
 generalize w.alloc (.cells #[.bool on, .bool re, .int .i64 src, .int .i64 dst, .slice sa ss.length sc, .int .i64 com, .slice ca cs.length cc] 30) = y0 at *
 obtain ⟨RB, hRB⟩ : ∃ B, w.heap.size = B := ⟨_, rfl⟩
 rw [hRB] at HR0 ⊢
 have HZ := Lib.hid hRB
 clear hRB
 have HCC : Hid (∀ w', Upd (fun _ => False) y0 w' → w'.cell? ⟨RB, 0, none⟩ = some (.bool on) ∧ w'.cell? ⟨RB, 1, none⟩ = some (.bool re) ∧ w'.cell? ⟨RB, 2, none⟩ = some (.int .i64 src) ∧ w'.cell? ⟨RB, 3, none⟩ = some (.int .i64 dst) ∧ w'.cell? ⟨RB, 4, none⟩ = some (.slice sa ss.length sc) ∧ w'.cell? ⟨RB, 5, none⟩ = some (.int .i64 com) ∧ w'.cell? ⟨RB, 6, none⟩ = some (.slice ca cs.length cc)) := Lib.hid (fun w' h => row7 ((h.block RB (lt_of_heap HR0.out) (fun h => h)).trans HR0.out))
 obtain ⟨z0, z1, z2, z3, z4, z5, z6⟩ := HCC.out y0 (Upd.refl _ _)
 cases on with
 | false =>
  have HR := Lib.hid (HF1.out (.inl rfl))
  go_wp2_with fail
  go_ret
  exact ⟨by rw [HR.out]; rfl, HU0.out⟩
 | true =>
 have hn0 := HNU.out src y0
 generalize hb0 : numB src = b0 at hn0
 have HB0 := Lib.hid hb0
 clear hb0
 have hn1 := HNU.out dst y0
 generalize hb1 : numB dst = b1 at hn1
 have HB1 := Lib.hid hb1
 clear hb1
 have hn2 := HNU.out com y0
 generalize hb2 : numB com = b2 at hn2
 have HB2 := Lib.hid hb2
 clear hb2
 cases b0 with
 | false =>
  have HR := Lib.hid (HF1.out (.inr (.inl HB0.out)))
  go_wp2_with fail
  refine hn0.mono ?_
  rintro e w' ⟨rfl, rfl⟩
  go_wp2_with fail
  go_ret
  exact ⟨by rw [HR.out]; rfl, HU0.out⟩
 | true =>
 cases b1 with
 | false =>
  have HR := Lib.hid (HF1.out (.inr (.inr (.inl HB1.out))))
  go_wp2_with fail
  refine hn0.mono ?_
  rintro e w' ⟨rfl, rfl⟩
  go_wp2_with fail
  refine hn1.mono ?_
  rintro e w' ⟨rfl, rfl⟩
  go_wp2_with fail
  go_ret
  exact ⟨by rw [HR.out]; rfl, HU0.out⟩
 | true =>
 cases b2 with
 | false =>
  have HR := Lib.hid (HF1.out (.inr (.inr (.inr (.inl HB2.out)))))
  go_wp2_with fail
  refine hn0.mono ?_
  rintro e w' ⟨rfl, rfl⟩
  go_wp2_with fail
  refine hn1.mono ?_
  rintro e w' ⟨rfl, rfl⟩
  go_wp2_with fail
  refine hn2.mono ?_
  rintro e w' ⟨rfl, rfl⟩
  go_wp2_with fail
  go_ret
  exact ⟨by rw [HR.out]; rfl, HU0.out⟩
 | true =>
 by_cases c5 : 2000 < ss.length
 case pos =>
  have HR := Lib.hid (HF1.out (.inr (.inr (.inr (.inr (.inl c5))))))
  have hI : decide ((2000 : Int) < (ss.length : Int)) = true := by rw [decide_eq_true_iff]; omega
  go_wp2_with fail
  refine hn0.mono ?_
  rintro e w' ⟨rfl, rfl⟩
  go_wp2_with fail
  refine hn1.mono ?_
  rintro e w' ⟨rfl, rfl⟩
  go_wp2_with fail
  refine hn2.mono ?_
  rintro e w' ⟨rfl, rfl⟩
  go_wp2_with fail
  go_ret
  exact ⟨by rw [HR.out]; rfl, HU0.out⟩
 case neg =>
 have ic5 : decide ((2000 : Int) < (ss.length : Int)) = false := by rw [decide_eq_false_iff_not]; omega
 by_cases c6 : 100 < cs.length
 case pos =>
  have HR := Lib.hid (HF1.out (.inr (.inr (.inr (.inr (.inr c6))))))
  have hI : decide ((100 : Int) < (cs.length : Int)) = true := by rw [decide_eq_true_iff]; omega
  go_wp2_with fail
  refine hn0.mono ?_
  rintro e w' ⟨rfl, rfl⟩
  go_wp2_with fail
  refine hn1.mono ?_
  rintro e w' ⟨rfl, rfl⟩
  go_wp2_with fail
  refine hn2.mono ?_
  rintro e w' ⟨rfl, rfl⟩
  go_wp2_with fail
  go_ret
  exact ⟨by rw [HR.out]; rfl, HU0.out⟩
 case neg =>
 have ic6 : decide ((100 : Int) < (cs.length : Int)) = false := by rw [decide_eq_false_iff_not]; omega
 have HOK2 : Hid (ss.any badS = false → cs.any badC = false → R = true) := Lib.hid (HOK.out rfl HB0.out HB1.out HB2.out c5 c6)
 clear c5 c6 HOK
 go_wp2_with fail
 refine hn0.mono ?_
 rintro e w' ⟨rfl, rfl⟩
 go_wp2_with fail
 refine hn1.mono ?_
 rintro e w' ⟨rfl, rfl⟩
 go_wp2_with fail
 refine hn2.mono ?_
 rintro e w' ⟨rfl, rfl⟩
 go_wp2_with fail
 clear ic5 ic6 z0 z1 z2 z3 z4 z5 z6 hn0 hn1 hn2 HB0 HB1 HB2
 go_loopw [3] (fun i wr => ∃ j : Nat, j ≤ ss.length ∧ i = .int .i64 (j : Int) ∧ Hid ((ss.take j).any badS = false) ∧ Hid (Upd (fun _ => False) y0 wr)) (fun i _ => ss.length - (intOf i).toNat)
 case atStart => exact ⟨0, Nat.zero_le _, rfl, (by show _ = _; simp), Lib.hid (Upd.refl _ _)⟩
 case round =>
  obtain ⟨j, hj, rfl, hA, HU⟩ := hrel
  obtain ⟨z0, z1, z2, z3, z4, z5, z6⟩ := HCC.out _ HU.out
  clear z0 z1 z2 z3 z5 z6
  by_cases hlt : j < ss.length
  ·have hI : (j : Int) < (ss.length : Int) := by omega
   obtain ⟨b, o, hb, hcell⟩ := (HI.out.sv.upd (HU0.out.trans HU.out) (fun _ _ h => h)).at (show 0 < ss.length by omega) (by decide)
   dsimp only at hb
   subst hb
   have q0 : wr.cell? ⟨b, o + j * 2, none⟩ = some (.int .i64 ss[j].com) := hcell (j * 2 + 0) _ (st_get ss j 0 hlt (by decide))
   have q1 : wr.cell? ⟨b, o + j * 2 + 1, none⟩ = some (.slice ss[j].a ss[j].fs.length ss[j].c) := hcell (j * 2 + 1) _ (st_get ss j 1 hlt (by decide))
   have hmx := (HI.out.se ss[j] (List.getElem_mem hlt)).upd (HU0.out.trans HU.out)
   have hs := any_take_succ badS ss j hlt
   rw [hA.out, Bool.false_or] at hs
   have hall := any_of_take badS ss (j + 1)
   rw [hs] at hall
   clear hcell
   generalize ss[j] = x at *
   have HS := Lib.hid hs
   have HALL := Lib.hid hall
   have HBD : Hid (badS x = (!numB x.com || !rightT x.fs)) := Lib.hid rfl
   obtain ⟨xm, xf, xa, xc⟩ := x
   dsimp only at *
   have hright := r11Right_any xa xc xf wr hmx.v hmx.t
   rw [← right_eq] at hright
   have hnum := HNU.out xm wr
   clear hs hall hA hmx
   generalize rightT xf = bt at *
   generalize numB xm = bo at *
   cases bo with
   | false =>
    have HR := Lib.hid (HF2.out (HALL.out (by rw [HBD.out]; simp)))
    clear hright
    go_wp2_with fail
    refine hnum.mono ?_
    rintro e w' ⟨rfl, rfl⟩
    go_wp2_with fail
    go_ret
    exact ⟨by rw [HR.out]; rfl, HU0.out.trans HU.out⟩
   | true =>
   cases bt with
   | false =>
    have HR := Lib.hid (HF2.out (HALL.out (by rw [HBD.out]; simp)))
    go_wp2_with fail
    refine hnum.mono ?_
    rintro e w' ⟨rfl, rfl⟩
    go_wp2_with fail
    refine hright.mono ?_
    rintro e w2 ⟨rfl, hU2⟩
    have HU2 := Lib.hid (HU.out.trans hU2)
    clear hright hU2
    go_wp2_with fail
    go_ret
    exact ⟨by rw [HR.out]; rfl, HU0.out.trans HU2.out⟩
   | true =>
    have HS2 : Hid ((ss.take (j + 1)).any badS = false) := Lib.hid (by rw [HS.out, HBD.out]; rfl)
    go_wp2_with fail
    refine hnum.mono ?_
    rintro e w' ⟨rfl, rfl⟩
    go_wp2_with fail
    refine hright.mono ?_
    rintro e w2 ⟨rfl, hU2⟩
    have HU2 := Lib.hid (HU.out.trans hU2)
    clear hright hnum hU2 q0 q1 z4
    go_wp2_with fail
    go_roundw
    case rel => exact ⟨j + 1, by omega, by first | rfl | go_num, Lib.hid HS2.out, HU2⟩
    case measure => simp [intOf]; omega
  ·obtain rfl : j = ss.length := by omega
   have hI : ¬ (ss.length : Int) < (ss.length : Int) := by omega
   have h0 := hA.out
   rw [List.take_length] at h0
   have HOK3 : Hid (cs.any badC = false → R = true) := Lib.hid (HOK2.out h0)
   have HUS := HU
   clear h0 hA hlt hj HOK2 HU
   go_wp2_with fail
   clear z4 hI
   go_loopw [4] (fun i wz => ∃ j : Nat, j ≤ cs.length ∧ i = .int .i64 (j : Int) ∧ Hid ((cs.take j).any badC = false) ∧ wr = wz) (fun i _ => cs.length - (intOf i).toNat)
   case atStart => exact ⟨0, Nat.zero_le _, rfl, (by show _ = _; simp), rfl⟩
   case round =>
    obtain ⟨j, hj, rfl, hA, rfl⟩ := hrel
    obtain ⟨z0, z1, z2, z3, z4, z5, z6⟩ := HCC.out _ HUS.out
    clear z0 z1 z2 z3 z5 z4
    by_cases hlt : j < cs.length
    ·have hI : (j : Int) < (cs.length : Int) := by omega
     obtain ⟨b, o, hb, hcell⟩ := (HI.out.cv.upd (HU0.out.trans HUS.out) (fun _ _ h => h)).at (show 0 < cs.length by omega) (by decide)
     dsimp only at hb
     subst hb
     have q1 : wr.cell? ⟨b, o + j * 3 + 1, none⟩ = some (.int .i64 cs[j].kind) := hcell (j * 3 + 1) _ (cl_get cs j 1 hlt (by decide))
     have hs := any_take_succ badC cs j hlt
     rw [hA.out, Bool.false_or] at hs
     have hall := any_of_take badC cs (j + 1)
     rw [hs] at hall
     clear hcell
     generalize cs[j] = x at *
     have HS := Lib.hid hs
     have HALL := Lib.hid hall
     have HBD : Hid (badC x = !numB x.kind) := Lib.hid rfl
     obtain ⟨xp, xk, xt⟩ := x
     dsimp only at *
     have hnum := HNU.out xk wr
     clear hs hall hA
     generalize numB xk = bo at *
     cases bo with
     | false =>
      have HR := Lib.hid (HF3.out (HALL.out (by rw [HBD.out]; rfl)))
      go_wp2_with fail
      refine hnum.mono ?_
      rintro e w' ⟨rfl, rfl⟩
      go_wp2_with fail
      go_ret
      exact ⟨by rw [HR.out]; rfl, HU0.out.trans HUS.out⟩
     | true =>
      have HS2 : Hid ((cs.take (j + 1)).any badC = false) := Lib.hid (by rw [HS.out, HBD.out]; rfl)
      go_wp2_with fail
      refine hnum.mono ?_
      rintro e w' ⟨rfl, rfl⟩
      clear hnum q1 z6
      go_wp2_with fail
      go_roundw
      case rel => exact ⟨j + 1, by omega, by first | rfl | go_num, Lib.hid HS2.out, by first | rfl | trivial⟩
      case measure => simp [intOf]; omega
    ·obtain rfl : j = cs.length := by omega
     have hI : ¬ (cs.length : Int) < (cs.length : Int) := by omega
     have h0 := hA.out
     rw [List.take_length] at h0
     have HR := Lib.hid (HOK3.out h0)
     clear h0 hA hlt hj
     go_wp2_with fail
     go_ret
     exact ⟨by rw [HR.out]; rfl, HU0.out.trans HUS.out⟩
/-- A row of bytes that was made since w1. -/
def Rb (w1 w : World) (e : Option Addr) (d : Nat) (l : List UInt8) : Prop :=
 w.ownsRow 0 5 1 (.slice e l.length d) l.length (bvs l) ∧ Upd (fun _ => False) w1 w ∧ (∀ g, blk e = some g → w1.heap.size ≤ g)
theorem Rb.vw {w1 w : World} {e : Option Addr} {d : Nat} {l : List UInt8} (h : Rb w1 w e d l) : Vw w e l.length d 1 (bvs l) := Vw.of_own h.1
theorem Rb.other {w1 w w' : World} {e : Option Addr} {d : Nat} {l : List UInt8} (h : Rb w1 w e d l) (hU : Upd (fun _ => False) w w') : Rb w1 w' e d l :=
 ⟨ownsRow_upd h.1 hU (fun _ _ h => h), h.2.1.trans hU, h.2.2⟩
theorem Rb.made {w1 w w' : World} {e : Option Addr} {d : Nat} {l l' : List UInt8} {en : Ending} {n : Bool} (h : Rb w1 w e d l) (h' : MadeB w l' n en w') :
  ∃ e' d', en = .returned (.slice e' l'.length d') ∧ Rb w1 w' e' d' l' := by
 obtain ⟨a, c, rfl, hown, hU, hf, _⟩ := h'
 exact ⟨a, c, rfl, hown, h.2.1.trans hU, fun g hg => Nat.le_trans h.2.1.size (hf g hg)⟩
theorem Rb.lit (w1 w : World) (hU : Upd (fun _ => False) w1 w) (x : UInt8) : Rb w1 (w.alloc (.cells #[.int .u8 (x.toNat : Int)] 5)) (some ⟨w.heap.size, 0, none⟩) 1 [x] :=
 ⟨lit_own w x, hU.trans (Upd.alloc _ _ _), fun g hg => by cases hg; exact hU.size⟩
theorem rb_int {w1 w : World} {e : Option Addr} {d : Nat} {l : List UInt8} (h : Rb w1 w e d l) (v : Int) (hl : l.length ≤ 100000000) :
  Calls Tryz.prog 50 #[.slice e l.length d, .int .i64 v] w fun en w' => ∃ e' d', en = .returned (.slice e' (l ++ i4 v).length d') ∧ Rb w1 w' e' d' (l ++ i4 v) :=
 (refInt_any e d l v w h.vw hl).mono (fun _ _ h' => h.made h')
theorem rb_text {w1 w : World} {e : Option Addr} {d : Nat} {l : List UInt8} (h : Rb w1 w e d l) (s : List UInt8) (hl : l.length ≤ 100000000) (hs : s.length ≤ 100000000) :
  Calls Tryz.prog 51 #[.slice e l.length d, .string (str s)] w fun en w' => ∃ e' d', en = .returned (.slice e' (l ++ tx s).length d') ∧ Rb w1 w' e' d' (l ++ tx s) := by
 have := refText_any e d l (str s) w h.vw hl (by rw [str_size]; exact hs)
 rw [t4_str] at this
 exact this.mono (fun _ _ h' => h.made h')
/-- What Pack answers. -/
theorem Rb.packed {w0 w1 w : World} {e : Option Addr} {d : Nat} {l : List UInt8} (h : Rb w1 w e d l) (hU : Upd (fun _ => False) w0 w1) :
  Vw w e l.length d 1 (bvs l) ∧ (∀ g, blk e = some g → w0.heap.size ≤ g ∧ g < w.heap.size) ∧ Upd (fun _ => False) w0 w :=
 ⟨h.vw, fun g hg => ⟨Nat.le_trans hU.size (h.2.2 g hg), (h.1.lt g ((own_blk _ _ _).trans hg)).2⟩, hU.trans h.2.1⟩
theorem Rb.app {w1 w w3 : World} {e a3 : Option Addr} {d m c3 : Nat} {L k : List UInt8} (h : Rb w1 w e d L) (hk : k.length = m)
  (hown2 : w3.ownsRow 0 5 1 (.slice a3 (L.length + m) c3) (L.length + m) (bvs L ++ bvs k)) (hg2 : w.grownBy w3 (blk e)) (hat2 : blk a3 = blk e ∨ blk a3 = some w.heap.size) : Rb w1 w3 a3 c3 (L ++ k) :=
 app_next (w := w1) h.2.1 rfl h.2.2 hk hown2 hg2 hat2
end Go.Proofs.YtccejkikphpnfaaGreatDoor
