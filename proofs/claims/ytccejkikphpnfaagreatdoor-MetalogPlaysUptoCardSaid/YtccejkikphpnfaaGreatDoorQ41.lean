
/- The reference's RootMay, in general. -/
import Derived.Test.YtccejkikphpnfaaGreatDoorQ36
namespace Go.Proofs.YtccejkikphpnfaaGreatDoor
set_option linter.unusedSimpArgs false
set_option linter.unusedVariables false
set_option maxRecDepth 100000
open Go.ChangeShapes Go.WideShapes Go.ChangeAt Go.RowKit
theorem rootB_bad (r : Rt) (h : r.p < -1 ∨ 2000 ≤ r.p ∨ 2000 < r.ks.length ∨ 2000 < r.ms.length ∨ 100 < r.ns.length ∨ numB r.k = false ∨ r.ms.any badM = true ∨ (List.range r.ns.length).any (badK r.ns) = true) : rootB r = false := by
 cases hb : rootB r with
 | false => rfl
 | true =>
  exfalso
  simp only [rootB, markersB, marksB, sortB, Bool.and_eq_true, decide_eq_true_eq, Bool.not_eq_true'] at hb
  obtain ⟨⟨h1, h2⟩, h3, ⟨h4, h5⟩, ⟨h6, h7⟩, h8⟩ := hb
  rcases h with h | h | h | h | h | h | h | h
  ·omega
  ·omega
  ·omega
  ·omega
  ·omega
  ·rw [h8] at h; cases h
  ·rw [h5] at h; cases h
  ·rw [h6] at h; cases h
theorem rootB_ok (r : Rt) (h1 : ¬ r.p < -1) (h2 : ¬ 2000 ≤ r.p) (h3 : ¬ 2000 < r.ks.length) (h4 : ¬ 2000 < r.ms.length) (h5 : ¬ 100 < r.ns.length) (h6 : numB r.k = true) (h7 : r.ms.any badM = false) (h8 : (List.range r.ns.length).any (badK r.ns) = false) : rootB r = true := by
 simp only [rootB, markersB, marksB, sortB, Bool.and_eq_true, decide_eq_true_eq, Bool.not_eq_true']
 refine ⟨⟨by omega, by omega⟩, by omega, ⟨by omega, h7⟩, ⟨h8, by omega⟩, h6⟩
set_option maxHeartbeats 32000000 in
theorem rootMay_any (r : Rt) (w : World) (h : RtIn w r) : Calls Tryz.prog 49 #[.agg (rtA r)] w fun e w' => e = .returned (.bool (rootB r)) ∧ Upd (fun _ => False) w w' := by
 have hU := Upd.alloc (fun _ => False) w (.cells (rtA r) 26)
 have hrow := heap_alloc_new w (.cells (rtA r) 26)
 have hb := rootB_bad r
 have hok := rootB_ok r
 generalize rootB r = R at *
 obtain ⟨p, ca, cc, ks, ma, mc, ms, na, nc, ns, k⟩ := r
 unfold rtA at *
 dsimp only at *
 have hcm := h.mv.cap
 have hlm := h.mv.le
 have hcn := h.nv.cap
 have hln := h.nv.le
 unfold maxLen at hcm hcn
 dsimp only at hcm hlm hcn hln
 have HI := Lib.hid h
 have HF1 : Hid (p < -1 ∨ 2000 ≤ p ∨ 2000 < ks.length ∨ 2000 < ms.length ∨ 100 < ns.length ∨ numB k = false → R = false) := Lib.hid (fun h => hb (by rcases h with h | h | h | h | h | h <;> simp [h]))
 have HF2 : Hid (ms.any badM = true → R = false) := Lib.hid (fun h => hb (.inr (.inr (.inr (.inr (.inr (.inr (.inl h))))))))
 have HF3 : Hid ((List.range ns.length).any (badK ns) = true → R = false) := Lib.hid (fun h => hb (.inr (.inr (.inr (.inr (.inr (.inr (.inr h))))))))
 have HOK := Lib.hid hok
 have HNK : Hid (∀ w', Calls Tryz.prog 85 #[.int .i64 k] w' fun e w2 => e = .returned (.bool (numB k)) ∧ w' = w2) := Lib.hid (fun w' => rnumber_any k w')
 have HU0 := Lib.hid hU
 have HR0 := Lib.hid hrow
 clear hU hrow hb hok h
 go_enter Tryz.func49, Tryz.ntmps49
 go_upto_region 1 with (fail)
 generalize w.alloc (.cells #[.int .i64 p, .slice ca ks.length cc, .slice ma ms.length mc, .slice na ns.length nc, .int .i64 k] 26) = y0 at *
 obtain ⟨RB, hRB⟩ : ∃ B, w.heap.size = B := ⟨_, rfl⟩
 rw [hRB] at HR0 ⊢
 have HZ := Lib.hid hRB
 clear hRB
 have HCC : Hid (∀ w', Upd (fun _ => False) y0 w' → w'.cell? ⟨RB, 0, none⟩ = some (.int .i64 p) ∧ w'.cell? ⟨RB, 1, none⟩ = some (.slice ca ks.length cc) ∧ w'.cell? ⟨RB, 2, none⟩ = some (.slice ma ms.length mc) ∧ w'.cell? ⟨RB, 3, none⟩ = some (.slice na ns.length nc) ∧ w'.cell? ⟨RB, 4, none⟩ = some (.int .i64 k)) := Lib.hid (fun w' h => row5 ((h.block RB (lt_of_heap HR0.out) (fun h => h)).trans HR0.out))
 obtain ⟨z0, z1, z2, z3, z4⟩ := HCC.out y0 (Upd.refl _ _)
 by_cases c1 : p < -1
 case pos =>
  have hI : decide (p < -1) = true := decide_eq_true c1
  have HR := Lib.hid (HF1.out (by exact .inl c1))
  go_wp2_with fail
  go_ret
  exact ⟨by rw [HR.out]; rfl, HU0.out⟩
 case neg =>
 have i1 : decide (p < -1) = false := decide_eq_false c1
 by_cases c2 : 2000 ≤ p
 case pos =>
  have hI : decide (2000 ≤ p) = true := decide_eq_true c2
  have HR := Lib.hid (HF1.out (by exact .inr (.inl c2)))
  go_wp2_with fail
  go_ret
  exact ⟨by rw [HR.out]; rfl, HU0.out⟩
 case neg =>
 have i2 : decide (2000 ≤ p) = false := decide_eq_false c2
 by_cases c3 : 2000 < ks.length
 case pos =>
  have hI : decide ((2000 : Int) < (ks.length : Int)) = true := by rw [decide_eq_true_iff]; omega
  have HR := Lib.hid (HF1.out (by exact .inr (.inr (.inl c3))))
  go_wp2_with fail
  go_ret
  exact ⟨by rw [HR.out]; rfl, HU0.out⟩
 case neg =>
 have i3 : decide ((2000 : Int) < (ks.length : Int)) = false := by rw [decide_eq_false_iff_not]; omega
 by_cases c4 : 2000 < ms.length
 case pos =>
  have hI : decide ((2000 : Int) < (ms.length : Int)) = true := by rw [decide_eq_true_iff]; omega
  have HR := Lib.hid (HF1.out (by exact .inr (.inr (.inr (.inl c4)))))
  go_wp2_with fail
  go_ret
  exact ⟨by rw [HR.out]; rfl, HU0.out⟩
 case neg =>
 have i4' : decide ((2000 : Int) < (ms.length : Int)) = false := by rw [decide_eq_false_iff_not]; omega
 by_cases c5 : 100 < ns.length
 case pos =>
  have hI : decide ((100 : Int) < (ns.length : Int)) = true := by rw [decide_eq_true_iff]; omega
  have HR := Lib.hid (HF1.out (by exact .inr (.inr (.inr (.inr (.inl c5))))))
  go_wp2_with fail
  go_ret
  exact ⟨by rw [HR.out]; rfl, HU0.out⟩
 case neg =>
 have i5 : decide ((100 : Int) < (ns.length : Int)) = false := by rw [decide_eq_false_iff_not]; omega
 have HOK2 : Hid (numB k = true → ms.any badM = false → (List.range ns.length).any (badK ns) = false → R = true) := Lib.hid (HOK.out c1 c2 c3 c4 c5)
 clear c1 c2 c3 c4 c5 HOK
 generalize hnk : numB k = bk at *
 clear hnk
 go_wp2_with fail
 refine (HNK.out _).mono ?_
 rintro e w' ⟨rfl, rfl⟩
 clear HNK
 cases bk with
 | false =>
  have HR := Lib.hid (HF1.out (.inr (.inr (.inr (.inr (.inr rfl))))))
  go_wp2_with fail
  go_ret
  exact ⟨by rw [HR.out]; rfl, HU0.out⟩
 | true =>
 go_wp2_with fail
 clear i1 i2 i3 i4' i5 z0 z1 z2 z3 z4
 go_loopw [3] (fun i wr => ∃ j : Nat, j ≤ ms.length ∧ i = .int .i64 (j : Int) ∧ Hid ((ms.take j).any badM = false) ∧ Hid (Upd (fun _ => False) y0 wr)) (fun i _ => ms.length - (intOf i).toNat)
 case atStart => exact ⟨0, Nat.zero_le _, rfl, (by show _ = _; simp), Lib.hid (Upd.refl _ _)⟩
 case round =>
  obtain ⟨j, hj, rfl, hA, HU⟩ := hrel
  obtain ⟨z0, z1, z2, z3, z4⟩ := HCC.out _ HU.out
  clear z0 z1 z3 z4
  by_cases hlt : j < ms.length
  ·have hI : (j : Int) < (ms.length : Int) := by omega
   obtain ⟨b, o, hb, hcell⟩ := (HI.out.mv.upd (HU0.out.trans HU.out) (fun _ _ h => h)).at (show 0 < ms.length by omega) (by decide)
   dsimp only at hb
   subst hb
   have q0 : wr.cell? ⟨b, o + j * 2, none⟩ = some (.int .i64 ms[j].old) := hcell (j * 2 + 0) _ (mk_get ms j 0 hlt (by decide))
   have q1 : wr.cell? ⟨b, o + j * 2 + 1, none⟩ = some (.slice ms[j].a ms[j].new.length ms[j].c) := hcell (j * 2 + 1) _ (mk_get ms j 1 hlt (by decide))
   have hmx : ∀ w', Upd (fun _ => False) y0 w' → MkIn w' ms[j] := fun w' hu => (HI.out.me ms[j] (List.getElem_mem hlt)).upd (HU0.out.trans hu)
   have hs := any_take_succ badM ms j hlt
   rw [hA.out, Bool.false_or] at hs
   have hall := any_of_take badM ms (j + 1)
   rw [hs] at hall
   clear hcell
   generalize ms[j] = x at *
   have HS := Lib.hid hs
   have HALL := Lib.hid hall
   have HMX := Lib.hid hmx
   have HBD : Hid (badM x = (decide (x.old < 0) || (!numB x.old || !(decide (x.new.length ≤ 2000) && !x.new.any badN)))) := Lib.hid rfl
   have hcx := (hmx y0 (Upd.refl _ _)).cap
   have hlx := (hmx y0 (Upd.refl _ _)).le
   unfold maxLen at hcx
   clear hs hall hA hmx
   obtain ⟨xo, xn, xa, xc⟩ := x
   dsimp only at *
   have hUx := Upd.alloc (fun _ => False) wr (.cells #[.int .i64 xo, .slice xa xn.length xc] 77)
   have hrow := heap_alloc_new wr (.cells #[.int .i64 xo, .slice xa xn.length xc] 77)
   have HRX := Lib.hid hrow
   have HU1 := Lib.hid (HU.out.trans hUx)
   clear hUx hrow
   go_upto_region 7 with (fail)
   generalize wr.alloc (.cells #[.int .i64 xo, .slice xa xn.length xc] 77) = y1 at *
   obtain ⟨XB, hXB⟩ : ∃ B, wr.heap.size = B := ⟨_, rfl⟩
   rw [hXB] at HRX ⊢
   clear hXB q0 q1 z2 hI
   have hcx0 : y1.cell? ⟨XB, 0, none⟩ = some (.int .i64 xo) := by rw [cell_of_row _ _ _ _ _ _ HRX.out]; rfl
   have HCX : Hid (∀ w', Upd (fun _ => False) y1 w' → w'.cell? ⟨XB, 1, none⟩ = some (.slice xa xn.length xc)) := Lib.hid (fun w' h => by
    rw [cell_of_row _ _ _ _ _ _ ((h.block XB (lt_of_heap HRX.out) (fun h => h)).trans HRX.out)]; rfl)
   have hcx1 := HCX.out y1 (Upd.refl _ _)
   have hnum := rnumber_any xo y1
   generalize numB xo = bo at *
   cases bo with
   | false =>
    have HR := Lib.hid (HF2.out (HALL.out (by rw [HBD.out]; simp)))
    go_wp2_with fail
    refine hnum.mono ?_
    rintro e w' ⟨rfl, rfl⟩
    go_wp2_with fail
    go_ret
    exact ⟨by rw [HR.out]; rfl, HU0.out.trans HU1.out⟩
   | true =>
   by_cases ho : xo < 0
   case pos =>
    have HR := Lib.hid (HF2.out (HALL.out (by rw [HBD.out, decide_eq_true ho]; rfl)))
    have hI : decide (xo < 0) = true := decide_eq_true ho
    clear ho
    go_wp2_with fail
    refine hnum.mono ?_
    rintro e w' ⟨rfl, rfl⟩
    go_wp2_with fail
    go_ret
    exact ⟨by rw [HR.out]; rfl, HU0.out.trans HU1.out⟩
   case neg =>
   have i1 : decide (xo < 0) = false := decide_eq_false ho
   by_cases hl : 2000 < xn.length
   case pos =>
    have HR := Lib.hid (HF2.out (HALL.out (by rw [HBD.out, decide_eq_false (show ¬ xn.length ≤ 2000 by omega)]; simp)))
    have hI : decide ((2000 : Int) < (xn.length : Int)) = true := by rw [decide_eq_true_iff]; omega
    clear ho hl
    go_wp2_with fail
    refine hnum.mono ?_
    rintro e w' ⟨rfl, rfl⟩
    go_wp2_with fail
    go_ret
    exact ⟨by rw [HR.out]; rfl, HU0.out.trans HU1.out⟩
   case neg =>
   have hI : decide ((2000 : Int) < (xn.length : Int)) = false := by rw [decide_eq_false_iff_not]; omega
   have HBE : Hid (badM ⟨xo, xn, xa, xc⟩ = xn.any badN) := Lib.hid (by rw [HBD.out, i1, decide_eq_true (show xn.length ≤ 2000 by omega)]; simp)
   clear ho hl HBD
   go_wp2_with fail
   refine hnum.mono ?_
   rintro e w' ⟨rfl, rfl⟩
   clear hnum
   go_wp2_with fail
   clear i1 hI hcx0 hcx1
   go_loopw [5] (fun i wz => ∃ q : Nat, q ≤ xn.length ∧ i = .int .i64 (q : Int) ∧ Hid ((xn.take q).any badN = false) ∧ Hid (Upd (fun _ => False) y1 wz)) (fun i _ => xn.length - (intOf i).toNat)
   case atStart => exact ⟨0, Nat.zero_le _, rfl, (by show _ = _; simp), Lib.hid (Upd.refl _ _)⟩
   case round =>
    obtain ⟨q, hq, rfl, hA, HUz⟩ := hrel
    have hcx1 := HCX.out _ HUz.out
    by_cases hlt2 : q < xn.length
    ·have hI : (q : Int) < (xn.length : Int) := by omega
     obtain ⟨b2, o2, hb2, hcell⟩ := (show Vw _ xa xn.length xc 1 (xn.map iv) from HMX.out _ (HU1.out.trans HUz.out)).at (by omega) (by decide)
     subst hb2
     have qv := hcell q _ (iv_at xn q hlt2)
     have hs := any_take_succ badN xn q hlt2
     rw [hA.out, Bool.false_or] at hs
     have hall := any_of_take badN xn (q + 1)
     rw [hs] at hall
     clear hcell
     generalize xn[q] = v at *
     have HSN := Lib.hid hs
     have HALN := Lib.hid hall
     have HBN : Hid (badN v = (decide (v < 0) || !numB v)) := Lib.hid rfl
     have hnum := fun w => rnumber_any v w
     generalize numB v = bv' at *
     clear hs hall hA
     cases bv' with
     | false =>
      have HR := Lib.hid (HF2.out (HALL.out (by rw [HBE.out]; exact HALN.out (by rw [HBN.out]; simp))))
      go_wp2_with fail
      refine (hnum _).mono ?_
      rintro e w' ⟨rfl, rfl⟩
      clear hnum
      go_wp2_with fail
      go_ret
      exact ⟨by rw [HR.out]; rfl, HU0.out.trans (HU1.out.trans HUz.out)⟩
     | true =>
     by_cases hv0 : v < 0
     case pos =>
      have HR := Lib.hid (HF2.out (HALL.out (by rw [HBE.out]; exact HALN.out (by rw [HBN.out, decide_eq_true hv0]; rfl))))
      have i1 : decide (v < 0) = true := decide_eq_true hv0
      clear hv0
      go_wp2_with fail
      refine (hnum _).mono ?_
      rintro e w' ⟨rfl, rfl⟩
      clear hnum
      go_wp2_with fail
      go_ret
      exact ⟨by rw [HR.out]; rfl, HU0.out.trans (HU1.out.trans HUz.out)⟩
     case neg =>
     have i1 : decide (v < 0) = false := decide_eq_false hv0
     have HNB : Hid (badN v = false) := Lib.hid (by rw [HBN.out, i1]; rfl)
     clear hv0
     go_wp2_with fail
     refine (hnum _).mono ?_
     rintro e w' ⟨rfl, rfl⟩
     clear hnum
     go_wp2_with fail
     go_roundw
     case rel => exact ⟨q + 1, by omega, by first | rfl | go_num, (by show _ = _; rw [HSN.out, HNB.out]), HUz⟩
     case measure => simp [intOf]; omega
    ·obtain rfl : q = xn.length := by omega
     have hA2 := hA.out
     rw [List.take_length] at hA2
     have HNB : Hid (badM ⟨xo, xn, xa, xc⟩ = false) := Lib.hid (by rw [HBE.out, hA2])
     have hI : ¬ (xn.length : Int) < (xn.length : Int) := by omega
     clear hA hA2 hlt2 hq
     go_wp2_with fail
     go_roundw
     case rel => exact ⟨j + 1, by omega, by first | rfl | go_num, (by show _ = _; rw [HS.out, HNB.out]), Lib.hid (HU1.out.trans HUz.out)⟩
     case measure => simp [intOf]; omega
  ·obtain rfl : j = ms.length := by omega
   have hA2 := hA.out
   rw [List.take_length] at hA2
   have HOK3 : Hid ((List.range ns.length).any (badK ns) = false → R = true) := Lib.hid (HOK2.out (by simp) hA2)
   have hI : ¬ (ms.length : Int) < (ms.length : Int) := by omega
   have HUM := HU
   clear hA hA2 hlt hj HOK2 HU
   go_wp2_with fail
   clear z2 hI
   go_loopw [6] (fun i wr => ∃ j : Nat, j ≤ ns.length ∧ i = .int .i64 (j : Int) ∧ Hid ((List.range j).any (badK ns) = false) ∧ Hid (Upd (fun _ => False) y0 wr)) (fun i _ => ns.length - (intOf i).toNat)
   case atStart => exact ⟨0, Nat.zero_le _, rfl, (by show _ = _; simp), HUM⟩
   case round =>
    clear HUM
    obtain ⟨j, hj, rfl, hA, HU⟩ := hrel
    obtain ⟨z0, z1, z2, z3, z4⟩ := HCC.out _ HU.out
    clear z0 z1 z2 z4
    by_cases hlt : j < ns.length
    ·have hI : (j : Int) < (ns.length : Int) := by omega
     have hv := HI.out.nv.upd (HU0.out.trans HU.out) (fun _ _ h => h)
     obtain ⟨b, o, hb, hcell⟩ := hv.at (show 0 < ns.length by omega) (by decide)
     dsimp only at hb
     subst hb
     have q0 : wr.cell? ⟨b, o + j * 2, none⟩ = some (sv ns[j].name) := hcell (j * 2 + 0) _ (nm_get ns j 0 hlt (by decide))
     have q1 : wr.cell? ⟨b, o + j * 2 + 1, none⟩ = some (.int .i64 ns[j].com) := hcell (j * 2 + 1) _ (nm_get ns j 1 hlt (by decide))
     have hs := range_any_succ (badK ns) j
     rw [hA.out, Bool.false_or] at hs
     have hbad : badK ns j = (!lenB ns[j].name || (decide (ns[j].com < 0) || (!numB ns[j].com || (decide (0 < j) && leS ns[j].name ((ns[j - 1]?.map (·.name)).getD []))))) := by
      unfold badK; rw [List.getElem?_eq_getElem hlt]
     have hpr : ∀ (h1 : 0 < j), wr.cell? ⟨b, o + (j - 1) * 2, none⟩ = some (.string (str ((ns[j - 1]?.map (·.name)).getD []))) := fun h1 => by
      have e : (ns[j - 1]?.map (·.name)).getD [] = (ns[j - 1]'(by omega)).name := by rw [List.getElem?_eq_getElem (show j - 1 < ns.length by omega)]; rfl
      rw [e]
      exact hcell ((j - 1) * 2 + 0) _ (nm_get ns (j - 1) 0 (by omega) (by decide))
     have hall : badK ns j = true → Hid ((List.range ns.length).any (badK ns) = true) := fun h => Lib.hid (range_any_le (badK ns) (j + 1) ns.length (by omega) (by rw [hs, h]))
     have htl := HI.out.nl ns[j] (List.getElem_mem hlt)
     have HS := Lib.hid hs
     have HALL := Lib.hid hall
     have HBAD := Lib.hid hbad
     have HPR := Lib.hid hpr
     clear hcell hv hs hall hbad hpr hA
     generalize ns[j] = x at *
     obtain ⟨xn, xc⟩ := x
     dsimp only at *
     unfold sv at q0
     have hUx := Upd.alloc (fun _ => False) wr (.cells #[.string (str xn), .int .i64 xc] 92)
     have hrow := heap_alloc_new wr (.cells #[.string (str xn), .int .i64 xc] 92)
     have HRX := Lib.hid hrow
     have HUX := Lib.hid hUx
     have HUY := Lib.hid (HU.out.trans hUx)
     have HU := Lib.hid (HU0.out.trans HUY.out)
     have hsz := str_size xn
     unfold maxLen at htl
     clear hrow hUx
     go_upto_region 18 with (fail)
     generalize wr.alloc (.cells #[.string (str xn), .int .i64 xc] 92) = y1 at *
     obtain ⟨B, hB⟩ : ∃ B, wr.heap.size = B := ⟨_, rfl⟩
     rw [hB] at HRX ⊢
     clear hB z3
     have HNU : Hid (∀ w, Calls Tryz.prog 85 #[.int .i64 xc] w fun e w' => e = .returned (.bool (numB xc)) ∧ w = w') := Lib.hid (fun w => rnumber_any xc w)
     have HCB : Hid (∀ w', Upd (fun _ => False) y1 w' → w'.cell? ⟨B, 0, none⟩ = some (.string (str xn)) ∧ w'.cell? ⟨B, 1, none⟩ = some (.int .i64 xc)) := Lib.hid (fun w' h => by
      have hr := (h.block B (lt_of_heap HRX.out) (fun h => h)).trans HRX.out
      exact ⟨by rw [cell_of_row _ _ _ _ _ _ hr]; rfl, by rw [cell_of_row _ _ _ _ _ _ hr]; rfl⟩)
     have HQ := Lib.hid (HCB.out y1.drew (Upd.drew _ _))
     generalize numB xc = b2 at *
     have HLE : Hid (lenB xn = (decide (1 ≤ xn.length) && decide (xn.length ≤ 50))) := Lib.hid rfl
     by_cases l1 : xn.length < 1
     case pos =>
      have i1 : decide ((xn.length : Int) < 1) = true := by rw [decide_eq_true_iff]; omega
      have HBT := Lib.hid (show badK ns j = true from by rw [HBAD.out, HLE.out, decide_eq_false (show ¬ 1 ≤ xn.length by omega)]; rfl)
      clear l1
      refine wp_region_plan_last [([0, 1, 2, 3, 4, 5, 6, 7, 8, 9, 10, 11, 12, 13, 14, 15, 16, 17, 18, 19, 20, 21, 22, 23, 24, 25, 26, 27, 28], 29)] [30, 31, 32, 33, 34, 35, 36] (fun w' => w'.cell? ⟨B, 0, none⟩ = some (.string (str xn)) ∧ w'.cell? ⟨B, 1, none⟩ = some (.int .i64 xc)) (by kernel_rfl) (by kernel_rfl) HQ.out ?_
      iterate 29
       first | refine plan_skip rfl rfl ?_ | (refine plan_take (v := ?_) rfl rfl (fun w' hS => ?_) ?_; rotate_left; · (go_simp; try with_reducible rfl))
       simp only [putL]
      refine plan_act rfl (fun K2 hK2 => ?_)
      go_wp2_with fail
      refine hK2.out _ _ (.inr HQ.out) ?_
      iterate 7
       first | refine plan_lskip rfl rfl ?_ | (refine plan_last (v := ?_) rfl rfl (fun w' hS => ?_) ?_; rotate_left; · (go_simp; try with_reducible rfl))
       simp only [putL]
      refine plan_end ?_
      go_wp2_with fail
      have HR2 := Lib.hid (HF3.out (HALL.out HBT.out).out)
      go_ret
      exact ⟨by rw [HR2.out]; rfl, HU.out.trans (Upd.drew _ _)⟩
     case neg =>
     have i1 : decide ((xn.length : Int) < 1) = false := by rw [decide_eq_false_iff_not]; omega
     by_cases l2 : 50 < xn.length
     case pos =>
      have i2 : decide ((50 : Int) < (xn.length : Int)) = true := by rw [decide_eq_true_iff]; omega
      have HBT := Lib.hid (show badK ns j = true from by rw [HBAD.out, HLE.out, decide_eq_false (show ¬ xn.length ≤ 50 by omega)]; simp)
      clear l1 l2
      refine wp_region_plan_last [([0, 1, 2, 3, 4, 5, 6, 7, 8, 9, 10, 11, 12, 13, 14, 15, 16, 17, 18, 19, 20, 21, 22, 23, 24, 25, 26, 27, 28], 29)] [30, 31, 32, 33, 34, 35, 36] (fun w' => w'.cell? ⟨B, 0, none⟩ = some (.string (str xn)) ∧ w'.cell? ⟨B, 1, none⟩ = some (.int .i64 xc)) (by kernel_rfl) (by kernel_rfl) HQ.out ?_
      iterate 29
       first | refine plan_skip rfl rfl ?_ | (refine plan_take (v := ?_) rfl rfl (fun w' hS => ?_) ?_; rotate_left; · (go_simp; try with_reducible rfl))
       simp only [putL]
      refine plan_act rfl (fun K2 hK2 => ?_)
      go_wp2_with fail
      refine hK2.out _ _ (.inr HQ.out) ?_
      iterate 7
       first | refine plan_lskip rfl rfl ?_ | (refine plan_last (v := ?_) rfl rfl (fun w' hS => ?_) ?_; rotate_left; · (go_simp; try with_reducible rfl))
       simp only [putL]
      refine plan_end ?_
      go_wp2_with fail
      have HR2 := Lib.hid (HF3.out (HALL.out HBT.out).out)
      go_ret
      exact ⟨by rw [HR2.out]; rfl, HU.out.trans (Upd.drew _ _)⟩
     case neg =>
     have i2 : decide ((50 : Int) < (xn.length : Int)) = false := by rw [decide_eq_false_iff_not]; omega
     have hBAD := HBAD.out
     rw [HLE.out, decide_eq_true (show 1 ≤ xn.length by omega), decide_eq_true (show xn.length ≤ 50 by omega), Bool.and_true, Bool.not_true, Bool.false_or] at hBAD
     have HB1 := Lib.hid hBAD
     clear l1 l2 hBAD HBAD HLE
     by_cases h0 : 0 < j
     ·have hpv := HPR.out h0
      have hBAD := HB1.out
      rw [decide_eq_true h0, Bool.true_and] at hBAD
      have HB2 := Lib.hid hBAD
      clear hBAD HB1
      generalize (ns[j - 1]?.map (·.name)).getD [] = pr at *
      have hj1 : (j : Int) - 1 = ((j - 1 : Nat) : Int) := by omega
      have hj2 : j - 1 < ns.length := by omega
      generalize j - 1 = m at hpv hj1 hj2
      have hwj : IntKind.i64.wrap (m : Int) = (m : Int) := IntWalk.i64_in _ (by omega)
      have hj3 : (m : Int) < (ns.length : Int) := by omega
      have hI0 : (0 : Int) < (j : Int) := by omega
      have HLQ : Hid ((Op.bytesLess xn pr || xn == pr) = leS xn pr) := Lib.hid rfl
      clear HQ
      have HQ : Hid (y1.drew.cell? ⟨B, 0, none⟩ = some (.string (str xn)) ∧ y1.drew.cell? ⟨B, 1, none⟩ = some (.int .i64 xc) ∧ y1.drew.cell? ⟨RB, 3, none⟩ = some (.slice (some ⟨b, o, none⟩) ns.length nc) ∧ y1.drew.cell? ⟨b, o + m * 2, none⟩ = some (.string (str pr))) := Lib.hid
       ⟨(HCB.out _ (Upd.drew _ _)).1, (HCB.out _ (Upd.drew _ _)).2, (HCC.out _ (HUY.out.trans (Upd.drew _ _))).2.2.2.1, ((HUX.out.trans (Upd.drew _ _)).cell (p := ⟨b, o + m * 2, none⟩) (World.block_lt_of_cell? wr _ hpv) (fun h => h)).trans hpv⟩
      clear hpv HCB
      generalize leS xn pr = le at *
      cases le with
      | true =>
       have HBT := Lib.hid (show badK ns j = true from by rw [HB2.out]; simp)
       refine wp_region_plan_last [([0, 1, 2, 3, 4, 5, 6, 7, 8, 9, 10, 11, 12, 13, 14, 15, 16, 17, 18, 19, 20, 21, 22, 23, 24, 25, 26, 27, 28], 29)] [30, 31, 32, 33, 34, 35, 36] (fun w' => w'.cell? ⟨B, 0, none⟩ = some (.string (str xn)) ∧ w'.cell? ⟨B, 1, none⟩ = some (.int .i64 xc) ∧ w'.cell? ⟨RB, 3, none⟩ = some (.slice (some ⟨b, o, none⟩) ns.length nc) ∧ w'.cell? ⟨b, o + m * 2, none⟩ = some (.string (str pr))) (by kernel_rfl) (by kernel_rfl) HQ.out ?_
       iterate 29
        first | refine plan_skip rfl rfl ?_ | (refine plan_take (v := ?_) rfl rfl (fun w' hS => ?_) ?_; rotate_left; · (go_simp; try with_reducible rfl))
        simp only [HLQ.out, putL]
       refine plan_act rfl (fun K2 hK2 => ?_)
       go_wp2_with fail
       refine hK2.out _ _ (.inr HQ.out) ?_
       iterate 7
        first | refine plan_lskip rfl rfl ?_ | (refine plan_last (v := ?_) rfl rfl (fun w' hS => ?_) ?_; rotate_left; · (go_simp; try with_reducible rfl))
        simp only [putL]
       refine plan_end ?_
       go_wp2_with fail
       have HR2 := Lib.hid (HF3.out (HALL.out HBT.out).out)
       go_ret
       exact ⟨by rw [HR2.out]; rfl, HU.out.trans (Upd.drew _ _)⟩
      | false =>
       have hBAD := HB2.out
       rw [Bool.or_false] at hBAD
       have HB3 := Lib.hid hBAD
       clear hBAD HB2
       cases b2 with
       | false =>
        have HBT := Lib.hid (show badK ns j = true from by rw [HB3.out]; simp)
        refine wp_region_plan_last [([0, 1, 2, 3, 4, 5, 6, 7, 8, 9, 10, 11, 12, 13, 14, 15, 16, 17, 18, 19, 20, 21, 22, 23, 24, 25, 26, 27, 28], 29)] [30, 31, 32, 33, 34, 35, 36] (fun w' => w'.cell? ⟨B, 0, none⟩ = some (.string (str xn)) ∧ w'.cell? ⟨B, 1, none⟩ = some (.int .i64 xc) ∧ w'.cell? ⟨RB, 3, none⟩ = some (.slice (some ⟨b, o, none⟩) ns.length nc) ∧ w'.cell? ⟨b, o + m * 2, none⟩ = some (.string (str pr))) (by kernel_rfl) (by kernel_rfl) HQ.out ?_
        iterate 29
         first | refine plan_skip rfl rfl ?_ | (refine plan_take (v := ?_) rfl rfl (fun w' hS => ?_) ?_; rotate_left; · (go_simp; try with_reducible rfl))
         simp only [HLQ.out, putL]
        refine plan_act rfl (fun K2 hK2 => ?_)
        go_wp2_with fail
        refine (HNU.out _).mono ?_
        rintro e w2 ⟨rfl, rfl⟩
        go_wp2_with fail
        refine hK2.out _ _ (.inr HQ.out) ?_
        iterate 7
         first | refine plan_lskip rfl rfl ?_ | (refine plan_last (v := ?_) rfl rfl (fun w' hS => ?_) ?_; rotate_left; · (go_simp; try with_reducible rfl))
         simp only [putL]
        refine plan_end ?_
        go_wp2_with fail
        have HR2 := Lib.hid (HF3.out (HALL.out HBT.out).out)
        go_ret
        exact ⟨by rw [HR2.out]; rfl, HU.out.trans (Upd.drew _ _)⟩
       | true =>
        by_cases ht : xc < 0
        ·have hI2 : decide (xc < 0) = true := decide_eq_true ht
         have HBT := Lib.hid (show badK ns j = true from by rw [HB3.out, hI2]; rfl)
         clear ht
         refine wp_region_plan_last [([0, 1, 2, 3, 4, 5, 6, 7, 8, 9, 10, 11, 12, 13, 14, 15, 16, 17, 18, 19, 20, 21, 22, 23, 24, 25, 26, 27, 28], 29)] [30, 31, 32, 33, 34, 35, 36] (fun w' => w'.cell? ⟨B, 0, none⟩ = some (.string (str xn)) ∧ w'.cell? ⟨B, 1, none⟩ = some (.int .i64 xc) ∧ w'.cell? ⟨RB, 3, none⟩ = some (.slice (some ⟨b, o, none⟩) ns.length nc) ∧ w'.cell? ⟨b, o + m * 2, none⟩ = some (.string (str pr))) (by kernel_rfl) (by kernel_rfl) HQ.out ?_
         iterate 29
          first | refine plan_skip rfl rfl ?_ | (refine plan_take (v := ?_) rfl rfl (fun w' hS => ?_) ?_; rotate_left; · (go_simp; try with_reducible rfl))
          simp only [HLQ.out, putL]
         refine plan_act rfl (fun K2 hK2 => ?_)
         go_wp2_with fail
         refine (HNU.out _).mono ?_
         rintro e w2 ⟨rfl, rfl⟩
         go_wp2_with fail
         refine hK2.out _ _ (.inr HQ.out) ?_
         iterate 7
          first | refine plan_lskip rfl rfl ?_ | (refine plan_last (v := ?_) rfl rfl (fun w' hS => ?_) ?_; rotate_left; · (go_simp; try with_reducible rfl))
          simp only [putL]
         refine plan_end ?_
         go_wp2_with fail
         have HR2 := Lib.hid (HF3.out (HALL.out HBT.out).out)
         go_ret
         exact ⟨by rw [HR2.out]; rfl, HU.out.trans (Upd.drew _ _)⟩
        ·have hI2 : decide (xc < 0) = false := decide_eq_false ht
         have HS2 : Hid ((List.range (j + 1)).any (badK ns) = false) := Lib.hid (by rw [HS.out, HB3.out, hI2]; rfl)
         clear ht
         refine wp_region_plan_last [([0, 1, 2, 3, 4, 5, 6, 7, 8, 9, 10, 11, 12, 13, 14, 15, 16, 17, 18, 19, 20, 21, 22, 23, 24, 25, 26, 27, 28], 29)] [30, 31, 32, 33, 34, 35, 36] (fun w' => w'.cell? ⟨B, 0, none⟩ = some (.string (str xn)) ∧ w'.cell? ⟨B, 1, none⟩ = some (.int .i64 xc) ∧ w'.cell? ⟨RB, 3, none⟩ = some (.slice (some ⟨b, o, none⟩) ns.length nc) ∧ w'.cell? ⟨b, o + m * 2, none⟩ = some (.string (str pr))) (by kernel_rfl) (by kernel_rfl) HQ.out ?_
         iterate 29
          first | refine plan_skip rfl rfl ?_ | (refine plan_take (v := ?_) rfl rfl (fun w' hS => ?_) ?_; rotate_left; · (go_simp; try with_reducible rfl))
          simp only [HLQ.out, putL]
         refine plan_act rfl (fun K2 hK2 => ?_)
         go_wp2_with fail
         refine (HNU.out _).mono ?_
         rintro e w2 ⟨rfl, rfl⟩
         go_wp2_with fail
         refine hK2.out _ _ (.inr HQ.out) ?_
         iterate 7
          first | refine plan_lskip rfl rfl ?_ | (refine plan_last (v := ?_) rfl rfl (fun w' hS => ?_) ?_; rotate_left; · (go_simp; try with_reducible rfl))
          simp only [putL]
         refine plan_end ?_
         go_wp2_with fail
         go_roundw
         case rel => exact ⟨j + 1, by omega, by first | rfl | go_num, Lib.hid HS2.out, Lib.hid (HUY.out.trans (Upd.drew _ _))⟩
         case measure => simp [intOf]; omega
     ·obtain rfl : j = 0 := by omega
      have hBAD := HB1.out
      rw [show decide (0 < 0) = false from rfl, Bool.false_and, Bool.or_false] at hBAD
      have HB3 := Lib.hid hBAD
      clear hBAD HB1
      obtain ⟨j, hj0⟩ : ∃ j : Nat, j = 0 := ⟨_, rfl⟩
      cases b2 with
      | false =>
       have HBT := Lib.hid (show badK ns 0 = true from by rw [HB3.out]; simp)
       refine wp_region_plan_last [([0, 1, 2, 3, 4, 5, 6, 7, 8, 9, 10, 11, 12, 13, 14, 15, 16, 17, 18, 19, 20, 21, 22, 23, 24, 25, 26, 27, 28], 29)] [30, 31, 32, 33, 34, 35, 36] (fun w' => w'.cell? ⟨B, 0, none⟩ = some (.string (str xn)) ∧ w'.cell? ⟨B, 1, none⟩ = some (.int .i64 xc)) (by kernel_rfl) (by kernel_rfl) HQ.out ?_
       iterate 29
        first | refine plan_skip rfl rfl ?_ | (refine plan_take (v := ?_) rfl rfl (fun w' hS => ?_) ?_; rotate_left; · (go_simp; try with_reducible rfl))
        simp only [putL]
       refine plan_act rfl (fun K2 hK2 => ?_)
       go_wp2_with fail
       refine (HNU.out _).mono ?_
       rintro e w2 ⟨rfl, rfl⟩
       go_wp2_with fail
       refine hK2.out _ _ (.inr HQ.out) ?_
       iterate 7
        first | refine plan_lskip rfl rfl ?_ | (refine plan_last (v := ?_) rfl rfl (fun w' hS => ?_) ?_; rotate_left; · (go_simp; try with_reducible rfl))
        simp only [putL]
       refine plan_end ?_
       go_wp2_with fail
       have HR2 := Lib.hid (HF3.out (HALL.out HBT.out).out)
       go_ret
       exact ⟨by rw [HR2.out]; rfl, HU.out.trans (Upd.drew _ _)⟩
      | true =>
       by_cases ht : xc < 0
       ·have hI2 : decide (xc < 0) = true := decide_eq_true ht
        have HBT := Lib.hid (show badK ns 0 = true from by rw [HB3.out, hI2]; rfl)
        clear ht
        refine wp_region_plan_last [([0, 1, 2, 3, 4, 5, 6, 7, 8, 9, 10, 11, 12, 13, 14, 15, 16, 17, 18, 19, 20, 21, 22, 23, 24, 25, 26, 27, 28], 29)] [30, 31, 32, 33, 34, 35, 36] (fun w' => w'.cell? ⟨B, 0, none⟩ = some (.string (str xn)) ∧ w'.cell? ⟨B, 1, none⟩ = some (.int .i64 xc)) (by kernel_rfl) (by kernel_rfl) HQ.out ?_
        iterate 29
         first | refine plan_skip rfl rfl ?_ | (refine plan_take (v := ?_) rfl rfl (fun w' hS => ?_) ?_; rotate_left; · (go_simp; try with_reducible rfl))
         simp only [putL]
        refine plan_act rfl (fun K2 hK2 => ?_)
        go_wp2_with fail
        refine (HNU.out _).mono ?_
        rintro e w2 ⟨rfl, rfl⟩
        go_wp2_with fail
        refine hK2.out _ _ (.inr HQ.out) ?_
        iterate 7
         first | refine plan_lskip rfl rfl ?_ | (refine plan_last (v := ?_) rfl rfl (fun w' hS => ?_) ?_; rotate_left; · (go_simp; try with_reducible rfl))
         simp only [putL]
        refine plan_end ?_
        go_wp2_with fail
        have HR2 := Lib.hid (HF3.out (HALL.out HBT.out).out)
        go_ret
        exact ⟨by rw [HR2.out]; rfl, HU.out.trans (Upd.drew _ _)⟩
       ·have hI2 : decide (xc < 0) = false := decide_eq_false ht
        have HS2 : Hid ((List.range (0 + 1)).any (badK ns) = false) := Lib.hid (by rw [HS.out, HB3.out, hI2]; rfl)
        clear ht
        refine wp_region_plan_last [([0, 1, 2, 3, 4, 5, 6, 7, 8, 9, 10, 11, 12, 13, 14, 15, 16, 17, 18, 19, 20, 21, 22, 23, 24, 25, 26, 27, 28], 29)] [30, 31, 32, 33, 34, 35, 36] (fun w' => w'.cell? ⟨B, 0, none⟩ = some (.string (str xn)) ∧ w'.cell? ⟨B, 1, none⟩ = some (.int .i64 xc)) (by kernel_rfl) (by kernel_rfl) HQ.out ?_
        iterate 29
         first | refine plan_skip rfl rfl ?_ | (refine plan_take (v := ?_) rfl rfl (fun w' hS => ?_) ?_; rotate_left; · (go_simp; try with_reducible rfl))
         simp only [putL]
        refine plan_act rfl (fun K2 hK2 => ?_)
        go_wp2_with fail
        refine (HNU.out _).mono ?_
        rintro e w2 ⟨rfl, rfl⟩
        go_wp2_with fail
        refine hK2.out _ _ (.inr HQ.out) ?_
        iterate 7
         first | refine plan_lskip rfl rfl ?_ | (refine plan_last (v := ?_) rfl rfl (fun w' hS => ?_) ?_; rotate_left; · (go_simp; try with_reducible rfl))
         simp only [putL]
        refine plan_end ?_
        go_wp2_with fail
        go_roundw
        case rel => exact ⟨1, by omega, by first | rfl | go_num, Lib.hid HS2.out, Lib.hid (HUY.out.trans (Upd.drew _ _))⟩
        case measure => simp [intOf]; omega
    ·obtain rfl : j = ns.length := by omega
     have hI : ¬ (ns.length : Int) < (ns.length : Int) := by omega
     have HR := Lib.hid (HOK3.out hA.out)
     clear hlt hj
     go_wp2_with fail
     go_ret
     exact ⟨by rw [HR.out]; rfl, HU0.out.trans HU.out⟩
end Go.Proofs.YtccejkikphpnfaaGreatDoor
