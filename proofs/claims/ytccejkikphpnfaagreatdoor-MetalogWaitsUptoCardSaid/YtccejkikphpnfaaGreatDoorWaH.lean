
/- few of layer 21: it answers. -/
import Derived.Test.YtccejkikphpnfaaGreatDoorTl1
import Derived.Test.YtccejkikphpnfaaGreatDoorTl4
import Derived.Test.YtccejkikphpnfaaGreatDoorWaE
import Derived.Test.YtccejkikphpnfaaGreatDoorWn
import Derived.Test.YtccejkikphpnfaaGreatDoorMtA
import Derived.Deep.CutBlock
namespace Go.Proofs.YtccejkikphpnfaaGreatDoor
set_option linter.unusedSimpArgs false
set_option linter.unusedVariables false
set_option maxRecDepth 100000
open Go.ChangeShapes Go.WideShapes Go.ChangeAt Go.RowKit

theorem rnumber_any (v : Int) (w : World) : Calls Tryz.prog 85 #[.int .i64 v] w fun e w' => e = .returned (.bool (numB v)) ∧ w = w' := by
  have hD : numB v = (decide (-1 ≤ v) && decide (v ≤ 1999)) := rfl
  have HD := Lib.hid hD
  clear hD
  by_cases h1 : -1 ≤ v
  · by_cases h2 : v < 2000
    · have HR : Hid (numB v = true) := Lib.hid (by rw [HD.out, decide_eq_true h1, decide_eq_true (show v ≤ 1999 by omega)]; rfl)
      have hI : decide (v < 2000) = true := decide_eq_true h2
      go_enter Tryz.func85, Tryz.ntmps85
      go_wp2
      go_ret
      exact ⟨by rw [HR.out]; rfl, rfl⟩
    · have HR : Hid (numB v = false) := Lib.hid (by rw [HD.out, decide_eq_false (show ¬ v ≤ 1999 by omega)]; simp)
      have hI : decide (v < 2000) = false := decide_eq_false h2
      go_enter Tryz.func85, Tryz.ntmps85
      go_wp2
      go_ret
      exact ⟨by rw [HR.out]; rfl, rfl⟩
  · have HR : Hid (numB v = false) := Lib.hid (by rw [HD.out, decide_eq_false h1]; rfl)
    have hI : decide (-1 ≤ v) = false := decide_eq_false h1
    go_enter Tryz.func85, Tryz.ntmps85
    go_wp2
    go_ret
    exact ⟨by rw [HR.out]; rfl, rfl⟩
end Go.Proofs.YtccejkikphpnfaaGreatDoor

namespace Go.Proofs.YtccejkikphpnfaaGreatDoor
set_option linter.unusedSimpArgs false
set_option linter.unusedVariables false
set_option maxRecDepth 100000
open Go.ChangeShapes Go.WideShapes Go.ChangeAt Go.RowKit

theorem rootB_bad (r : Rt) (h : r.p < -1 ∨ 2000 ≤ r.p ∨ 2000 < r.ks.length ∨ 2000 < r.ms.length ∨ 100 < r.ns.length ∨ numB r.k = false ∨ r.ms.any badM = true ∨ (List.range r.ns.length).any (badK r.ns) = true) : rootB r = false := by
  cases hb : rootB r with
  | false => rfl
  | true =>
    exfalso
    simp only [rootB, markersB, marksB, sortB, Bool.and_eq_true, decide_eq_true_eq, Bool.not_eq_true'] at hb
    obtain ⟨⟨h1, h2⟩, h3, ⟨h4, h5⟩, ⟨h6, h7⟩, h8⟩ := hb
    rcases h with h | h | h | h | h | h | h | h
    · omega
    · omega
    · omega
    · omega
    · omega
    · rw [h8] at h; cases h
    · rw [h5] at h; cases h
    · rw [h6] at h; cases h
theorem rootB_ok (r : Rt) (h1 : ¬ r.p < -1) (h2 : ¬ 2000 ≤ r.p) (h3 : ¬ 2000 < r.ks.length) (h4 : ¬ 2000 < r.ms.length) (h5 : ¬ 100 < r.ns.length) (h6 : numB r.k = true) (h7 : r.ms.any badM = false) (h8 : (List.range r.ns.length).any (badK r.ns) = false) : rootB r = true := by
  simp only [rootB, markersB, marksB, sortB, Bool.and_eq_true, decide_eq_true_eq, Bool.not_eq_true']
  refine ⟨⟨by omega, by omega⟩, by omega, ⟨by omega, h7⟩, ⟨h8, by omega⟩, h6⟩
set_option maxHeartbeats 32000000 in
theorem rootMay_any (r : Rt) (w : World) (h : RtIn w r) : Calls Tryz.prog 49 #[.agg (rtA r)] w fun e w' => e = .returned (.bool (rootB r)) ∧ Upd (fun _ => False) w w' := by
  have hU := Upd.alloc (fun _ => False) w (.cells (rtA r) 26)
  have hrow := heap_alloc_new w (.cells (rtA r) 26)
  have hb := rootB_bad r
  have hok := rootB_ok r
  generalize rootB r = R at *
  obtain ⟨p, ca, cc, ks, ma, mc, ms, na, nc, ns, k⟩ := r
  unfold rtA at *
  dsimp only at *
  have hcm := h.mv.cap
  have hlm := h.mv.le
  have hcn := h.nv.cap
  have hln := h.nv.le
  unfold maxLen at hcm hcn
  dsimp only at hcm hlm hcn hln
  have HI := Lib.hid h
  have HF1 : Hid (p < -1 ∨ 2000 ≤ p ∨ 2000 < ks.length ∨ 2000 < ms.length ∨ 100 < ns.length ∨ numB k = false → R = false) := Lib.hid (fun h => hb (by rcases h with h | h | h | h | h | h <;> simp [h]))
  have HF2 : Hid (ms.any badM = true → R = false) := Lib.hid (fun h => hb (.inr (.inr (.inr (.inr (.inr (.inr (.inl h))))))))
  have HF3 : Hid ((List.range ns.length).any (badK ns) = true → R = false) := Lib.hid (fun h => hb (.inr (.inr (.inr (.inr (.inr (.inr (.inr h))))))))
  have HOK := Lib.hid hok
  have HNK : Hid (∀ w', Calls Tryz.prog 85 #[.int .i64 k] w' fun e w2 => e = .returned (.bool (numB k)) ∧ w' = w2) := Lib.hid (fun w' => rnumber_any k w')
  have HU0 := Lib.hid hU
  have HR0 := Lib.hid hrow
  clear hU hrow hb hok h
  go_enter Tryz.func49, Tryz.ntmps49
  go_upto_region 1 with (fail)
  generalize w.alloc (.cells #[.int .i64 p, .slice ca ks.length cc, .slice ma ms.length mc, .slice na ns.length nc, .int .i64 k] 26) = y0 at *
  obtain ⟨RB, hRB⟩ : ∃ B, w.heap.size = B := ⟨_, rfl⟩
  rw [hRB] at HR0 ⊢
  have HZ := Lib.hid hRB
  clear hRB
  have HCC : Hid (∀ w', Upd (fun _ => False) y0 w' → w'.cell? ⟨RB, 0, none⟩ = some (.int .i64 p) ∧ w'.cell? ⟨RB, 1, none⟩ = some (.slice ca ks.length cc) ∧ w'.cell? ⟨RB, 2, none⟩ = some (.slice ma ms.length mc) ∧ w'.cell? ⟨RB, 3, none⟩ = some (.slice na ns.length nc) ∧ w'.cell? ⟨RB, 4, none⟩ = some (.int .i64 k)) := Lib.hid (fun w' h => row5 ((h.block RB (lt_of_heap HR0.out) (fun h => h)).trans HR0.out))
  obtain ⟨z0, z1, z2, z3, z4⟩ := HCC.out y0 (Upd.refl _ _)
  by_cases c1 : p < -1
  case pos =>
    have hI : decide (p < -1) = true := decide_eq_true c1
    have HR := Lib.hid (HF1.out (by exact .inl c1))
    go_wp2_with fail
    go_ret
    exact ⟨by rw [HR.out]; rfl, HU0.out⟩
  case neg =>
  have i1 : decide (p < -1) = false := decide_eq_false c1
  by_cases c2 : 2000 ≤ p
  case pos =>
    have hI : decide (2000 ≤ p) = true := decide_eq_true c2
    have HR := Lib.hid (HF1.out (by exact .inr (.inl c2)))
    go_wp2_with fail
    go_ret
    exact ⟨by rw [HR.out]; rfl, HU0.out⟩
  case neg =>
  have i2 : decide (2000 ≤ p) = false := decide_eq_false c2
  by_cases c3 : 2000 < ks.length
  case pos =>
    have hI : decide ((2000 : Int) < (ks.length : Int)) = true := by rw [decide_eq_true_iff]; omega
    have HR := Lib.hid (HF1.out (by exact .inr (.inr (.inl c3))))
    go_wp2_with fail
    go_ret
    exact ⟨by rw [HR.out]; rfl, HU0.out⟩
  case neg =>
  have i3 : decide ((2000 : Int) < (ks.length : Int)) = false := by rw [decide_eq_false_iff_not]; omega
  by_cases c4 : 2000 < ms.length
  case pos =>
    have hI : decide ((2000 : Int) < (ms.length : Int)) = true := by rw [decide_eq_true_iff]; omega
    have HR := Lib.hid (HF1.out (by exact .inr (.inr (.inr (.inl c4)))))
    go_wp2_with fail
    go_ret
    exact ⟨by rw [HR.out]; rfl, HU0.out⟩
  case neg =>
  have i4' : decide ((2000 : Int) < (ms.length : Int)) = false := by rw [decide_eq_false_iff_not]; omega
  by_cases c5 : 100 < ns.length
  case pos =>
    have hI : decide ((100 : Int) < (ns.length : Int)) = true := by rw [decide_eq_true_iff]; omega
    have HR := Lib.hid (HF1.out (by exact .inr (.inr (.inr (.inr (.inl c5))))))
    go_wp2_with fail
    go_ret
    exact ⟨by rw [HR.out]; rfl, HU0.out⟩
  case neg =>
  have i5 : decide ((100 : Int) < (ns.length : Int)) = false := by rw [decide_eq_false_iff_not]; omega
  have HOK2 : Hid (numB k = true → ms.any badM = false → (List.range ns.length).any (badK ns) = false → R = true) := Lib.hid (HOK.out c1 c2 c3 c4 c5)
  clear c1 c2 c3 c4 c5 HOK
  generalize hnk : numB k = bk at *
  clear hnk
  go_wp2_with fail
  refine (HNK.out _).mono ?_
  rintro e w' ⟨rfl, rfl⟩
  clear HNK
  cases bk with
  | false =>
    have HR := Lib.hid (HF1.out (.inr (.inr (.inr (.inr (.inr rfl))))))
    go_wp2_with fail
    go_ret
    exact ⟨by rw [HR.out]; rfl, HU0.out⟩
  | true =>
  go_wp2_with fail
  clear i1 i2 i3 i4' i5 z0 z1 z2 z3 z4
  go_loopw [3] (fun i wr => ∃ j : Nat, j ≤ ms.length ∧ i = .int .i64 (j : Int) ∧ Hid ((ms.take j).any badM = false) ∧ Hid (Upd (fun _ => False) y0 wr)) (fun i _ => ms.length - (intOf i).toNat)
  case atStart => exact ⟨0, Nat.zero_le _, rfl, (by show _ = _; simp), Lib.hid (Upd.refl _ _)⟩
  case round =>
    obtain ⟨j, hj, rfl, hA, HU⟩ := hrel
    obtain ⟨z0, z1, z2, z3, z4⟩ := HCC.out _ HU.out
    clear z0 z1 z3 z4
    by_cases hlt : j < ms.length
    · have hI : (j : Int) < (ms.length : Int) := by omega
      obtain ⟨b, o, hb, hcell⟩ := (HI.out.mv.upd (HU0.out.trans HU.out) (fun _ _ h => h)).at (show 0 < ms.length by omega) (by decide)
      dsimp only at hb
      subst hb
      have q0 : wr.cell? ⟨b, o + j * 2, none⟩ = some (.int .i64 ms[j].old) := hcell (j * 2 + 0) _ (mk_get ms j 0 hlt (by decide))
      have q1 : wr.cell? ⟨b, o + j * 2 + 1, none⟩ = some (.slice ms[j].a ms[j].new.length ms[j].c) := hcell (j * 2 + 1) _ (mk_get ms j 1 hlt (by decide))
      have hmx : ∀ w', Upd (fun _ => False) y0 w' → MkIn w' ms[j] := fun w' hu => (HI.out.me ms[j] (List.getElem_mem hlt)).upd (HU0.out.trans hu)
      have hs := any_take_succ badM ms j hlt
      rw [hA.out, Bool.false_or] at hs
      have hall := any_of_take badM ms (j + 1)
      rw [hs] at hall
      clear hcell
      generalize ms[j] = x at *
      have HS := Lib.hid hs
      have HALL := Lib.hid hall
      have HMX := Lib.hid hmx
      have HBD : Hid (badM x = (decide (x.old < 0) || (!numB x.old || !(decide (x.new.length ≤ 2000) && !x.new.any badN)))) := Lib.hid rfl
      have hcx := (hmx y0 (Upd.refl _ _)).cap
      have hlx := (hmx y0 (Upd.refl _ _)).le
      unfold maxLen at hcx
      clear hs hall hA hmx
      obtain ⟨xo, xn, xa, xc⟩ := x
      dsimp only at *
      have hUx := Upd.alloc (fun _ => False) wr (.cells #[.int .i64 xo, .slice xa xn.length xc] 77)
      have hrow := heap_alloc_new wr (.cells #[.int .i64 xo, .slice xa xn.length xc] 77)
      have HRX := Lib.hid hrow
      have HU1 := Lib.hid (HU.out.trans hUx)
      clear hUx hrow
      go_upto_region 7 with (fail)
      generalize wr.alloc (.cells #[.int .i64 xo, .slice xa xn.length xc] 77) = y1 at *
      obtain ⟨XB, hXB⟩ : ∃ B, wr.heap.size = B := ⟨_, rfl⟩
      rw [hXB] at HRX ⊢
      clear hXB q0 q1 z2 hI
      have hcx0 : y1.cell? ⟨XB, 0, none⟩ = some (.int .i64 xo) := by rw [cell_of_row _ _ _ _ _ _ HRX.out]; rfl
      have HCX : Hid (∀ w', Upd (fun _ => False) y1 w' → w'.cell? ⟨XB, 1, none⟩ = some (.slice xa xn.length xc)) := Lib.hid (fun w' h => by
        rw [cell_of_row _ _ _ _ _ _ ((h.block XB (lt_of_heap HRX.out) (fun h => h)).trans HRX.out)]; rfl)
      have hcx1 := HCX.out y1 (Upd.refl _ _)
      have hnum := rnumber_any xo y1
      generalize numB xo = bo at *
      cases bo with
      | false =>
        have HR := Lib.hid (HF2.out (HALL.out (by rw [HBD.out]; simp)))
        go_wp2_with fail
        refine hnum.mono ?_
        rintro e w' ⟨rfl, rfl⟩
        go_wp2_with fail
        go_ret
        exact ⟨by rw [HR.out]; rfl, HU0.out.trans HU1.out⟩
      | true =>
      by_cases ho : xo < 0
      case pos =>
        have HR := Lib.hid (HF2.out (HALL.out (by rw [HBD.out, decide_eq_true ho]; rfl)))
        have hI : decide (xo < 0) = true := decide_eq_true ho
        clear ho
        go_wp2_with fail
        refine hnum.mono ?_
        rintro e w' ⟨rfl, rfl⟩
        go_wp2_with fail
        go_ret
        exact ⟨by rw [HR.out]; rfl, HU0.out.trans HU1.out⟩
      case neg =>
      have i1 : decide (xo < 0) = false := decide_eq_false ho
      by_cases hl : 2000 < xn.length
      case pos =>
        have HR := Lib.hid (HF2.out (HALL.out (by rw [HBD.out, decide_eq_false (show ¬ xn.length ≤ 2000 by omega)]; simp)))
        have hI : decide ((2000 : Int) < (xn.length : Int)) = true := by rw [decide_eq_true_iff]; omega
        clear ho hl
        go_wp2_with fail
        refine hnum.mono ?_
        rintro e w' ⟨rfl, rfl⟩
        go_wp2_with fail
        go_ret
        exact ⟨by rw [HR.out]; rfl, HU0.out.trans HU1.out⟩
      case neg =>
      have hI : decide ((2000 : Int) < (xn.length : Int)) = false := by rw [decide_eq_false_iff_not]; omega
      have HBE : Hid (badM ⟨xo, xn, xa, xc⟩ = xn.any badN) := Lib.hid (by rw [HBD.out, i1, decide_eq_true (show xn.length ≤ 2000 by omega)]; simp)
      clear ho hl HBD
      go_wp2_with fail
      refine hnum.mono ?_
      rintro e w' ⟨rfl, rfl⟩
      clear hnum
      go_wp2_with fail
      clear i1 hI hcx0 hcx1
      go_loopw [5] (fun i wz => ∃ q : Nat, q ≤ xn.length ∧ i = .int .i64 (q : Int) ∧ Hid ((xn.take q).any badN = false) ∧ Hid (Upd (fun _ => False) y1 wz)) (fun i _ => xn.length - (intOf i).toNat)
      case atStart => exact ⟨0, Nat.zero_le _, rfl, (by show _ = _; simp), Lib.hid (Upd.refl _ _)⟩
      case round =>
        obtain ⟨q, hq, rfl, hA, HUz⟩ := hrel
        have hcx1 := HCX.out _ HUz.out
        by_cases hlt2 : q < xn.length
        · have hI : (q : Int) < (xn.length : Int) := by omega
          obtain ⟨b2, o2, hb2, hcell⟩ := (show Vw _ xa xn.length xc 1 (xn.map iv) from HMX.out _ (HU1.out.trans HUz.out)).at (by omega) (by decide)
          subst hb2
          have qv := hcell q _ (iv_at xn q hlt2)
          have hs := any_take_succ badN xn q hlt2
          rw [hA.out, Bool.false_or] at hs
          have hall := any_of_take badN xn (q + 1)
          rw [hs] at hall
          clear hcell
          generalize xn[q] = v at *
          have HSN := Lib.hid hs
          have HALN := Lib.hid hall
          have HBN : Hid (badN v = (decide (v < 0) || !numB v)) := Lib.hid rfl
          have hnum := fun w => rnumber_any v w
          generalize numB v = bv' at *
          clear hs hall hA
          cases bv' with
          | false =>
            have HR := Lib.hid (HF2.out (HALL.out (by rw [HBE.out]; exact HALN.out (by rw [HBN.out]; simp))))
            go_wp2_with fail
            refine (hnum _).mono ?_
            rintro e w' ⟨rfl, rfl⟩
            clear hnum
            go_wp2_with fail
            go_ret
            exact ⟨by rw [HR.out]; rfl, HU0.out.trans (HU1.out.trans HUz.out)⟩
          | true =>
          by_cases hv0 : v < 0
          case pos =>
            have HR := Lib.hid (HF2.out (HALL.out (by rw [HBE.out]; exact HALN.out (by rw [HBN.out, decide_eq_true hv0]; rfl))))
            have i1 : decide (v < 0) = true := decide_eq_true hv0
            clear hv0
            go_wp2_with fail
            refine (hnum _).mono ?_
            rintro e w' ⟨rfl, rfl⟩
            clear hnum
            go_wp2_with fail
            go_ret
            exact ⟨by rw [HR.out]; rfl, HU0.out.trans (HU1.out.trans HUz.out)⟩
          case neg =>
          have i1 : decide (v < 0) = false := decide_eq_false hv0
          have HNB : Hid (badN v = false) := Lib.hid (by rw [HBN.out, i1]; rfl)
          clear hv0
          go_wp2_with fail
          refine (hnum _).mono ?_
          rintro e w' ⟨rfl, rfl⟩
          clear hnum
          go_wp2_with fail
          go_roundw
          case rel => exact ⟨q + 1, by omega, by first | rfl | go_num, (by show _ = _; rw [HSN.out, HNB.out]), HUz⟩
          case measure => simp [intOf]; omega
        · obtain rfl : q = xn.length := by omega
          have hA2 := hA.out
          rw [List.take_length] at hA2
          have HNB : Hid (badM ⟨xo, xn, xa, xc⟩ = false) := Lib.hid (by rw [HBE.out, hA2])
          have hI : ¬ (xn.length : Int) < (xn.length : Int) := by omega
          clear hA hA2 hlt2 hq
          go_wp2_with fail
          go_roundw
          case rel => exact ⟨j + 1, by omega, by first | rfl | go_num, (by show _ = _; rw [HS.out, HNB.out]), Lib.hid (HU1.out.trans HUz.out)⟩
          case measure => simp [intOf]; omega
    · obtain rfl : j = ms.length := by omega
      have hA2 := hA.out
      rw [List.take_length] at hA2
      have HOK3 : Hid ((List.range ns.length).any (badK ns) = false → R = true) := Lib.hid (HOK2.out (by simp) hA2)
      have hI : ¬ (ms.length : Int) < (ms.length : Int) := by omega
      have HUM := HU
      clear hA hA2 hlt hj HOK2 HU
      go_wp2_with fail
      clear z2 hI
      go_loopw [6] (fun i wr => ∃ j : Nat, j ≤ ns.length ∧ i = .int .i64 (j : Int) ∧ Hid ((List.range j).any (badK ns) = false) ∧ Hid (Upd (fun _ => False) y0 wr)) (fun i _ => ns.length - (intOf i).toNat)
      case atStart => exact ⟨0, Nat.zero_le _, rfl, (by show _ = _; simp), HUM⟩
      case round =>
        clear HUM
        obtain ⟨j, hj, rfl, hA, HU⟩ := hrel
        obtain ⟨z0, z1, z2, z3, z4⟩ := HCC.out _ HU.out
        clear z0 z1 z2 z4
        by_cases hlt : j < ns.length
        · have hI : (j : Int) < (ns.length : Int) := by omega
          have hv := HI.out.nv.upd (HU0.out.trans HU.out) (fun _ _ h => h)
          obtain ⟨b, o, hb, hcell⟩ := hv.at (show 0 < ns.length by omega) (by decide)
          dsimp only at hb
          subst hb
          have q0 : wr.cell? ⟨b, o + j * 2, none⟩ = some (sv ns[j].name) := hcell (j * 2 + 0) _ (nm_get ns j 0 hlt (by decide))
          have q1 : wr.cell? ⟨b, o + j * 2 + 1, none⟩ = some (.int .i64 ns[j].com) := hcell (j * 2 + 1) _ (nm_get ns j 1 hlt (by decide))
          have hs := range_any_succ (badK ns) j
          rw [hA.out, Bool.false_or] at hs
          have hbad : badK ns j = (!lenB ns[j].name || (decide (ns[j].com < 0) || (!numB ns[j].com || (decide (0 < j) && leS ns[j].name ((ns[j - 1]?.map (·.name)).getD []))))) := by
            unfold badK; rw [List.getElem?_eq_getElem hlt]
          have hpr : ∀ (h1 : 0 < j), wr.cell? ⟨b, o + (j - 1) * 2, none⟩ = some (.string (str ((ns[j - 1]?.map (·.name)).getD []))) := fun h1 => by
            have e : (ns[j - 1]?.map (·.name)).getD [] = (ns[j - 1]'(by omega)).name := by rw [List.getElem?_eq_getElem (show j - 1 < ns.length by omega)]; rfl
            rw [e]
            exact hcell ((j - 1) * 2 + 0) _ (nm_get ns (j - 1) 0 (by omega) (by decide))
          have hall : badK ns j = true → Hid ((List.range ns.length).any (badK ns) = true) := fun h => Lib.hid (range_any_le (badK ns) (j + 1) ns.length (by omega) (by rw [hs, h]))
          have htl := HI.out.nl ns[j] (List.getElem_mem hlt)
          have HS := Lib.hid hs
          have HALL := Lib.hid hall
          have HBAD := Lib.hid hbad
          have HPR := Lib.hid hpr
          clear hcell hv hs hall hbad hpr hA
          generalize ns[j] = x at *
          obtain ⟨xn, xc⟩ := x
          dsimp only at *
          unfold sv at q0
          have hUx := Upd.alloc (fun _ => False) wr (.cells #[.string (str xn), .int .i64 xc] 92)
          have hrow := heap_alloc_new wr (.cells #[.string (str xn), .int .i64 xc] 92)
          have HRX := Lib.hid hrow
          have HUX := Lib.hid hUx
          have HUY := Lib.hid (HU.out.trans hUx)
          have HU := Lib.hid (HU0.out.trans HUY.out)
          have hsz := str_size xn
          unfold maxLen at htl
          clear hrow hUx
          go_upto_region 18 with (fail)
          generalize wr.alloc (.cells #[.string (str xn), .int .i64 xc] 92) = y1 at *
          obtain ⟨B, hB⟩ : ∃ B, wr.heap.size = B := ⟨_, rfl⟩
          rw [hB] at HRX ⊢
          clear hB z3
          have HNU : Hid (∀ w, Calls Tryz.prog 85 #[.int .i64 xc] w fun e w' => e = .returned (.bool (numB xc)) ∧ w = w') := Lib.hid (fun w => rnumber_any xc w)
          have HCB : Hid (∀ w', Upd (fun _ => False) y1 w' → w'.cell? ⟨B, 0, none⟩ = some (.string (str xn)) ∧ w'.cell? ⟨B, 1, none⟩ = some (.int .i64 xc)) := Lib.hid (fun w' h => by
            have hr := (h.block B (lt_of_heap HRX.out) (fun h => h)).trans HRX.out
            exact ⟨by rw [cell_of_row _ _ _ _ _ _ hr]; rfl, by rw [cell_of_row _ _ _ _ _ _ hr]; rfl⟩)
          have HQ := Lib.hid (HCB.out y1.drew (Upd.drew _ _))
          generalize numB xc = b2 at *
          have HLE : Hid (lenB xn = (decide (1 ≤ xn.length) && decide (xn.length ≤ 50))) := Lib.hid rfl
          by_cases l1 : xn.length < 1
          case pos =>
            have i1 : decide ((xn.length : Int) < 1) = true := by rw [decide_eq_true_iff]; omega
            have HBT := Lib.hid (show badK ns j = true from by rw [HBAD.out, HLE.out, decide_eq_false (show ¬ 1 ≤ xn.length by omega)]; rfl)
            clear l1
            refine wp_region_plan_last [([0, 1, 2, 3, 4, 5, 6, 7, 8, 9, 10, 11, 12, 13, 14, 15, 16, 17, 18, 19, 20, 21, 22, 23, 24, 25, 26, 27, 28], 29)] [30, 31, 32, 33, 34, 35, 36] (fun w' => w'.cell? ⟨B, 0, none⟩ = some (.string (str xn)) ∧ w'.cell? ⟨B, 1, none⟩ = some (.int .i64 xc)) (by kernel_rfl) (by kernel_rfl) HQ.out ?_
            iterate 29
              first
              | (refine plan_skip rfl rfl ?_)
              | (refine plan_take (v := ?_) rfl rfl (fun w' hS => ?_) ?_
                 rotate_left
                 · skip
                   go_simp; try with_reducible rfl)
              simp only [Act.put, List.getElem_toArray, List.getElem_cons_zero, List.getElem_cons_succ, List.setIfInBounds_toArray, List.set_cons_zero, List.set_cons_succ]
            refine plan_act rfl (fun K2 hK2 => ?_)
            go_wp2_with fail
            refine hK2.out _ _ (.inr HQ.out) ?_
            iterate 7
              first
              | (refine plan_lskip rfl rfl ?_)
              | (refine plan_last (v := ?_) rfl rfl (fun w' hS => ?_) ?_
                 rotate_left
                 · skip
                   go_simp; try with_reducible rfl)
              simp only [Act.put, List.getElem_toArray, List.getElem_cons_zero, List.getElem_cons_succ, List.setIfInBounds_toArray, List.set_cons_zero, List.set_cons_succ]
            refine plan_end ?_
            go_wp2_with fail
            have HR2 := Lib.hid (HF3.out (HALL.out HBT.out).out)
            go_ret
            exact ⟨by rw [HR2.out]; rfl, HU.out.trans (Upd.drew _ _)⟩
          case neg =>
          have i1 : decide ((xn.length : Int) < 1) = false := by rw [decide_eq_false_iff_not]; omega
          by_cases l2 : 50 < xn.length
          case pos =>
            have i2 : decide ((50 : Int) < (xn.length : Int)) = true := by rw [decide_eq_true_iff]; omega
            have HBT := Lib.hid (show badK ns j = true from by rw [HBAD.out, HLE.out, decide_eq_false (show ¬ xn.length ≤ 50 by omega)]; simp)
            clear l1 l2
            refine wp_region_plan_last [([0, 1, 2, 3, 4, 5, 6, 7, 8, 9, 10, 11, 12, 13, 14, 15, 16, 17, 18, 19, 20, 21, 22, 23, 24, 25, 26, 27, 28], 29)] [30, 31, 32, 33, 34, 35, 36] (fun w' => w'.cell? ⟨B, 0, none⟩ = some (.string (str xn)) ∧ w'.cell? ⟨B, 1, none⟩ = some (.int .i64 xc)) (by kernel_rfl) (by kernel_rfl) HQ.out ?_
            iterate 29
              first
              | (refine plan_skip rfl rfl ?_)
              | (refine plan_take (v := ?_) rfl rfl (fun w' hS => ?_) ?_
                 rotate_left
                 · skip
                   go_simp; try with_reducible rfl)
              simp only [Act.put, List.getElem_toArray, List.getElem_cons_zero, List.getElem_cons_succ, List.setIfInBounds_toArray, List.set_cons_zero, List.set_cons_succ]
            refine plan_act rfl (fun K2 hK2 => ?_)
            go_wp2_with fail
            refine hK2.out _ _ (.inr HQ.out) ?_
            iterate 7
              first
              | (refine plan_lskip rfl rfl ?_)
              | (refine plan_last (v := ?_) rfl rfl (fun w' hS => ?_) ?_
                 rotate_left
                 · skip
                   go_simp; try with_reducible rfl)
              simp only [Act.put, List.getElem_toArray, List.getElem_cons_zero, List.getElem_cons_succ, List.setIfInBounds_toArray, List.set_cons_zero, List.set_cons_succ]
            refine plan_end ?_
            go_wp2_with fail
            have HR2 := Lib.hid (HF3.out (HALL.out HBT.out).out)
            go_ret
            exact ⟨by rw [HR2.out]; rfl, HU.out.trans (Upd.drew _ _)⟩
          case neg =>
          have i2 : decide ((50 : Int) < (xn.length : Int)) = false := by rw [decide_eq_false_iff_not]; omega
          have hBAD := HBAD.out
          rw [HLE.out, decide_eq_true (show 1 ≤ xn.length by omega), decide_eq_true (show xn.length ≤ 50 by omega), Bool.and_true, Bool.not_true, Bool.false_or] at hBAD
          have HB1 := Lib.hid hBAD
          clear l1 l2 hBAD HBAD HLE
          by_cases h0 : 0 < j
          · have hpv := HPR.out h0
            have hBAD := HB1.out
            rw [decide_eq_true h0, Bool.true_and] at hBAD
            have HB2 := Lib.hid hBAD
            clear hBAD HB1
            generalize (ns[j - 1]?.map (·.name)).getD [] = pr at *
            have hj1 : (j : Int) - 1 = ((j - 1 : Nat) : Int) := by omega
            have hj2 : j - 1 < ns.length := by omega
            generalize j - 1 = m at hpv hj1 hj2
            have hwj : IntKind.i64.wrap (m : Int) = (m : Int) := IntWalk.i64_in _ (by omega)
            have hj3 : (m : Int) < (ns.length : Int) := by omega
            have hI0 : (0 : Int) < (j : Int) := by omega
            have HLQ : Hid ((Op.bytesLess xn pr || xn == pr) = leS xn pr) := Lib.hid rfl
            clear HQ
            have HQ : Hid (y1.drew.cell? ⟨B, 0, none⟩ = some (.string (str xn)) ∧ y1.drew.cell? ⟨B, 1, none⟩ = some (.int .i64 xc) ∧ y1.drew.cell? ⟨RB, 3, none⟩ = some (.slice (some ⟨b, o, none⟩) ns.length nc) ∧ y1.drew.cell? ⟨b, o + m * 2, none⟩ = some (.string (str pr))) := Lib.hid
              ⟨(HCB.out _ (Upd.drew _ _)).1, (HCB.out _ (Upd.drew _ _)).2, (HCC.out _ (HUY.out.trans (Upd.drew _ _))).2.2.2.1, ((HUX.out.trans (Upd.drew _ _)).cell (p := ⟨b, o + m * 2, none⟩) (World.block_lt_of_cell? wr _ hpv) (fun h => h)).trans hpv⟩
            clear hpv HCB
            generalize leS xn pr = le at *
            cases le with
            | true =>
              have HBT := Lib.hid (show badK ns j = true from by rw [HB2.out]; simp)
              refine wp_region_plan_last [([0, 1, 2, 3, 4, 5, 6, 7, 8, 9, 10, 11, 12, 13, 14, 15, 16, 17, 18, 19, 20, 21, 22, 23, 24, 25, 26, 27, 28], 29)] [30, 31, 32, 33, 34, 35, 36] (fun w' => w'.cell? ⟨B, 0, none⟩ = some (.string (str xn)) ∧ w'.cell? ⟨B, 1, none⟩ = some (.int .i64 xc) ∧ w'.cell? ⟨RB, 3, none⟩ = some (.slice (some ⟨b, o, none⟩) ns.length nc) ∧ w'.cell? ⟨b, o + m * 2, none⟩ = some (.string (str pr))) (by kernel_rfl) (by kernel_rfl) HQ.out ?_
              iterate 29
                first
                | (refine plan_skip rfl rfl ?_)
                | (refine plan_take (v := ?_) rfl rfl (fun w' hS => ?_) ?_
                   rotate_left
                   · skip
                     go_simp; try with_reducible rfl)
                simp only [HLQ.out, Act.put, List.getElem_toArray, List.getElem_cons_zero, List.getElem_cons_succ, List.setIfInBounds_toArray, List.set_cons_zero, List.set_cons_succ]
              refine plan_act rfl (fun K2 hK2 => ?_)
              go_wp2_with fail
              refine hK2.out _ _ (.inr HQ.out) ?_
              iterate 7
                first
                | (refine plan_lskip rfl rfl ?_)
                | (refine plan_last (v := ?_) rfl rfl (fun w' hS => ?_) ?_
                   rotate_left
                   · skip
                     go_simp; try with_reducible rfl)
                simp only [Act.put, List.getElem_toArray, List.getElem_cons_zero, List.getElem_cons_succ, List.setIfInBounds_toArray, List.set_cons_zero, List.set_cons_succ]
              refine plan_end ?_
              go_wp2_with fail
              have HR2 := Lib.hid (HF3.out (HALL.out HBT.out).out)
              go_ret
              exact ⟨by rw [HR2.out]; rfl, HU.out.trans (Upd.drew _ _)⟩
            | false =>
              have hBAD := HB2.out
              rw [Bool.or_false] at hBAD
              have HB3 := Lib.hid hBAD
              clear hBAD HB2
              cases b2 with
              | false =>
                have HBT := Lib.hid (show badK ns j = true from by rw [HB3.out]; simp)
                refine wp_region_plan_last [([0, 1, 2, 3, 4, 5, 6, 7, 8, 9, 10, 11, 12, 13, 14, 15, 16, 17, 18, 19, 20, 21, 22, 23, 24, 25, 26, 27, 28], 29)] [30, 31, 32, 33, 34, 35, 36] (fun w' => w'.cell? ⟨B, 0, none⟩ = some (.string (str xn)) ∧ w'.cell? ⟨B, 1, none⟩ = some (.int .i64 xc) ∧ w'.cell? ⟨RB, 3, none⟩ = some (.slice (some ⟨b, o, none⟩) ns.length nc) ∧ w'.cell? ⟨b, o + m * 2, none⟩ = some (.string (str pr))) (by kernel_rfl) (by kernel_rfl) HQ.out ?_
                iterate 29
                  first
                  | (refine plan_skip rfl rfl ?_)
                  | (refine plan_take (v := ?_) rfl rfl (fun w' hS => ?_) ?_
                     rotate_left
                     · skip
                       go_simp; try with_reducible rfl)
                  simp only [HLQ.out, Act.put, List.getElem_toArray, List.getElem_cons_zero, List.getElem_cons_succ, List.setIfInBounds_toArray, List.set_cons_zero, List.set_cons_succ]
                refine plan_act rfl (fun K2 hK2 => ?_)
                go_wp2_with fail
                refine (HNU.out _).mono ?_
                rintro e w2 ⟨rfl, rfl⟩
                go_wp2_with fail
                refine hK2.out _ _ (.inr HQ.out) ?_
                iterate 7
                  first
                  | (refine plan_lskip rfl rfl ?_)
                  | (refine plan_last (v := ?_) rfl rfl (fun w' hS => ?_) ?_
                     rotate_left
                     · skip
                       go_simp; try with_reducible rfl)
                  simp only [Act.put, List.getElem_toArray, List.getElem_cons_zero, List.getElem_cons_succ, List.setIfInBounds_toArray, List.set_cons_zero, List.set_cons_succ]
                refine plan_end ?_
                go_wp2_with fail
                have HR2 := Lib.hid (HF3.out (HALL.out HBT.out).out)
                go_ret
                exact ⟨by rw [HR2.out]; rfl, HU.out.trans (Upd.drew _ _)⟩
              | true =>
                by_cases ht : xc < 0
                · have hI2 : decide (xc < 0) = true := decide_eq_true ht
                  have HBT := Lib.hid (show badK ns j = true from by rw [HB3.out, hI2]; rfl)
                  clear ht
                  refine wp_region_plan_last [([0, 1, 2, 3, 4, 5, 6, 7, 8, 9, 10, 11, 12, 13, 14, 15, 16, 17, 18, 19, 20, 21, 22, 23, 24, 25, 26, 27, 28], 29)] [30, 31, 32, 33, 34, 35, 36] (fun w' => w'.cell? ⟨B, 0, none⟩ = some (.string (str xn)) ∧ w'.cell? ⟨B, 1, none⟩ = some (.int .i64 xc) ∧ w'.cell? ⟨RB, 3, none⟩ = some (.slice (some ⟨b, o, none⟩) ns.length nc) ∧ w'.cell? ⟨b, o + m * 2, none⟩ = some (.string (str pr))) (by kernel_rfl) (by kernel_rfl) HQ.out ?_
                  iterate 29
                    first
                    | (refine plan_skip rfl rfl ?_)
                    | (refine plan_take (v := ?_) rfl rfl (fun w' hS => ?_) ?_
                       rotate_left
                       · skip
                         go_simp; try with_reducible rfl)
                    simp only [HLQ.out, Act.put, List.getElem_toArray, List.getElem_cons_zero, List.getElem_cons_succ, List.setIfInBounds_toArray, List.set_cons_zero, List.set_cons_succ]
                  refine plan_act rfl (fun K2 hK2 => ?_)
                  go_wp2_with fail
                  refine (HNU.out _).mono ?_
                  rintro e w2 ⟨rfl, rfl⟩
                  go_wp2_with fail
                  refine hK2.out _ _ (.inr HQ.out) ?_
                  iterate 7
                    first
                    | (refine plan_lskip rfl rfl ?_)
                    | (refine plan_last (v := ?_) rfl rfl (fun w' hS => ?_) ?_
                       rotate_left
                       · skip
                         go_simp; try with_reducible rfl)
                    simp only [Act.put, List.getElem_toArray, List.getElem_cons_zero, List.getElem_cons_succ, List.setIfInBounds_toArray, List.set_cons_zero, List.set_cons_succ]
                  refine plan_end ?_
                  go_wp2_with fail
                  have HR2 := Lib.hid (HF3.out (HALL.out HBT.out).out)
                  go_ret
                  exact ⟨by rw [HR2.out]; rfl, HU.out.trans (Upd.drew _ _)⟩
                · have hI2 : decide (xc < 0) = false := decide_eq_false ht
                  have HS2 : Hid ((List.range (j + 1)).any (badK ns) = false) := Lib.hid (by rw [HS.out, HB3.out, hI2]; rfl)
                  clear ht
                  refine wp_region_plan_last [([0, 1, 2, 3, 4, 5, 6, 7, 8, 9, 10, 11, 12, 13, 14, 15, 16, 17, 18, 19, 20, 21, 22, 23, 24, 25, 26, 27, 28], 29)] [30, 31, 32, 33, 34, 35, 36] (fun w' => w'.cell? ⟨B, 0, none⟩ = some (.string (str xn)) ∧ w'.cell? ⟨B, 1, none⟩ = some (.int .i64 xc) ∧ w'.cell? ⟨RB, 3, none⟩ = some (.slice (some ⟨b, o, none⟩) ns.length nc) ∧ w'.cell? ⟨b, o + m * 2, none⟩ = some (.string (str pr))) (by kernel_rfl) (by kernel_rfl) HQ.out ?_
                  iterate 29
                    first
                    | (refine plan_skip rfl rfl ?_)
                    | (refine plan_take (v := ?_) rfl rfl (fun w' hS => ?_) ?_
                       rotate_left
                       · skip
                         go_simp; try with_reducible rfl)
                    simp only [HLQ.out, Act.put, List.getElem_toArray, List.getElem_cons_zero, List.getElem_cons_succ, List.setIfInBounds_toArray, List.set_cons_zero, List.set_cons_succ]
                  refine plan_act rfl (fun K2 hK2 => ?_)
                  go_wp2_with fail
                  refine (HNU.out _).mono ?_
                  rintro e w2 ⟨rfl, rfl⟩
                  go_wp2_with fail
                  refine hK2.out _ _ (.inr HQ.out) ?_
                  iterate 7
                    first
                    | (refine plan_lskip rfl rfl ?_)
                    | (refine plan_last (v := ?_) rfl rfl (fun w' hS => ?_) ?_
                       rotate_left
                       · skip
                         go_simp; try with_reducible rfl)
                    simp only [Act.put, List.getElem_toArray, List.getElem_cons_zero, List.getElem_cons_succ, List.setIfInBounds_toArray, List.set_cons_zero, List.set_cons_succ]
                  refine plan_end ?_
                  go_wp2_with fail
                  go_roundw
                  case rel => exact ⟨j + 1, by omega, by first | rfl | go_num, Lib.hid HS2.out, Lib.hid (HUY.out.trans (Upd.drew _ _))⟩
                  case measure => simp [intOf]; omega
          · obtain rfl : j = 0 := by omega
            have hBAD := HB1.out
            rw [show decide (0 < 0) = false from rfl, Bool.false_and, Bool.or_false] at hBAD
            have HB3 := Lib.hid hBAD
            clear hBAD HB1
            obtain ⟨j, hj0⟩ : ∃ j : Nat, j = 0 := ⟨_, rfl⟩
            cases b2 with
            | false =>
              have HBT := Lib.hid (show badK ns 0 = true from by rw [HB3.out]; simp)
              refine wp_region_plan_last [([0, 1, 2, 3, 4, 5, 6, 7, 8, 9, 10, 11, 12, 13, 14, 15, 16, 17, 18, 19, 20, 21, 22, 23, 24, 25, 26, 27, 28], 29)] [30, 31, 32, 33, 34, 35, 36] (fun w' => w'.cell? ⟨B, 0, none⟩ = some (.string (str xn)) ∧ w'.cell? ⟨B, 1, none⟩ = some (.int .i64 xc)) (by kernel_rfl) (by kernel_rfl) HQ.out ?_
              iterate 29
                first
                | (refine plan_skip rfl rfl ?_)
                | (refine plan_take (v := ?_) rfl rfl (fun w' hS => ?_) ?_
                   rotate_left
                   · skip
                     go_simp; try with_reducible rfl)
                simp only [Act.put, List.getElem_toArray, List.getElem_cons_zero, List.getElem_cons_succ, List.setIfInBounds_toArray, List.set_cons_zero, List.set_cons_succ]
              refine plan_act rfl (fun K2 hK2 => ?_)
              go_wp2_with fail
              refine (HNU.out _).mono ?_
              rintro e w2 ⟨rfl, rfl⟩
              go_wp2_with fail
              refine hK2.out _ _ (.inr HQ.out) ?_
              iterate 7
                first
                | (refine plan_lskip rfl rfl ?_)
                | (refine plan_last (v := ?_) rfl rfl (fun w' hS => ?_) ?_
                   rotate_left
                   · skip
                     go_simp; try with_reducible rfl)
                simp only [Act.put, List.getElem_toArray, List.getElem_cons_zero, List.getElem_cons_succ, List.setIfInBounds_toArray, List.set_cons_zero, List.set_cons_succ]
              refine plan_end ?_
              go_wp2_with fail
              have HR2 := Lib.hid (HF3.out (HALL.out HBT.out).out)
              go_ret
              exact ⟨by rw [HR2.out]; rfl, HU.out.trans (Upd.drew _ _)⟩
            | true =>
              by_cases ht : xc < 0
              · have hI2 : decide (xc < 0) = true := decide_eq_true ht
                have HBT := Lib.hid (show badK ns 0 = true from by rw [HB3.out, hI2]; rfl)
                clear ht
                refine wp_region_plan_last [([0, 1, 2, 3, 4, 5, 6, 7, 8, 9, 10, 11, 12, 13, 14, 15, 16, 17, 18, 19, 20, 21, 22, 23, 24, 25, 26, 27, 28], 29)] [30, 31, 32, 33, 34, 35, 36] (fun w' => w'.cell? ⟨B, 0, none⟩ = some (.string (str xn)) ∧ w'.cell? ⟨B, 1, none⟩ = some (.int .i64 xc)) (by kernel_rfl) (by kernel_rfl) HQ.out ?_
                iterate 29
                  first
                  | (refine plan_skip rfl rfl ?_)
                  | (refine plan_take (v := ?_) rfl rfl (fun w' hS => ?_) ?_
                     rotate_left
                     · skip
                       go_simp; try with_reducible rfl)
                  simp only [Act.put, List.getElem_toArray, List.getElem_cons_zero, List.getElem_cons_succ, List.setIfInBounds_toArray, List.set_cons_zero, List.set_cons_succ]
                refine plan_act rfl (fun K2 hK2 => ?_)
                go_wp2_with fail
                refine (HNU.out _).mono ?_
                rintro e w2 ⟨rfl, rfl⟩
                go_wp2_with fail
                refine hK2.out _ _ (.inr HQ.out) ?_
                iterate 7
                  first
                  | (refine plan_lskip rfl rfl ?_)
                  | (refine plan_last (v := ?_) rfl rfl (fun w' hS => ?_) ?_
                     rotate_left
                     · skip
                       go_simp; try with_reducible rfl)
                  simp only [Act.put, List.getElem_toArray, List.getElem_cons_zero, List.getElem_cons_succ, List.setIfInBounds_toArray, List.set_cons_zero, List.set_cons_succ]
                refine plan_end ?_
                go_wp2_with fail
                have HR2 := Lib.hid (HF3.out (HALL.out HBT.out).out)
                go_ret
                exact ⟨by rw [HR2.out]; rfl, HU.out.trans (Upd.drew _ _)⟩
              · have hI2 : decide (xc < 0) = false := decide_eq_false ht
                have HS2 : Hid ((List.range (0 + 1)).any (badK ns) = false) := Lib.hid (by rw [HS.out, HB3.out, hI2]; rfl)
                clear ht
                refine wp_region_plan_last [([0, 1, 2, 3, 4, 5, 6, 7, 8, 9, 10, 11, 12, 13, 14, 15, 16, 17, 18, 19, 20, 21, 22, 23, 24, 25, 26, 27, 28], 29)] [30, 31, 32, 33, 34, 35, 36] (fun w' => w'.cell? ⟨B, 0, none⟩ = some (.string (str xn)) ∧ w'.cell? ⟨B, 1, none⟩ = some (.int .i64 xc)) (by kernel_rfl) (by kernel_rfl) HQ.out ?_
                iterate 29
                  first
                  | (refine plan_skip rfl rfl ?_)
                  | (refine plan_take (v := ?_) rfl rfl (fun w' hS => ?_) ?_
                     rotate_left
                     · skip
                       go_simp; try with_reducible rfl)
                  simp only [Act.put, List.getElem_toArray, List.getElem_cons_zero, List.getElem_cons_succ, List.setIfInBounds_toArray, List.set_cons_zero, List.set_cons_succ]
                refine plan_act rfl (fun K2 hK2 => ?_)
                go_wp2_with fail
                refine (HNU.out _).mono ?_
                rintro e w2 ⟨rfl, rfl⟩
                go_wp2_with fail
                refine hK2.out _ _ (.inr HQ.out) ?_
                iterate 7
                  first
                  | (refine plan_lskip rfl rfl ?_)
                  | (refine plan_last (v := ?_) rfl rfl (fun w' hS => ?_) ?_
                     rotate_left
                     · skip
                       go_simp; try with_reducible rfl)
                  simp only [Act.put, List.getElem_toArray, List.getElem_cons_zero, List.getElem_cons_succ, List.setIfInBounds_toArray, List.set_cons_zero, List.set_cons_succ]
                refine plan_end ?_
                go_wp2_with fail
                go_roundw
                case rel => exact ⟨1, by omega, by first | rfl | go_num, Lib.hid HS2.out, Lib.hid (HUY.out.trans (Upd.drew _ _))⟩
                case measure => simp [intOf]; omega
        · obtain rfl : j = ns.length := by omega
          have hI : ¬ (ns.length : Int) < (ns.length : Int) := by omega
          have HR := Lib.hid (HOK3.out hA.out)
          clear hlt hj
          go_wp2_with fail
          go_ret
          exact ⟨by rw [HR.out]; rfl, HU0.out.trans HU.out⟩
end Go.Proofs.YtccejkikphpnfaaGreatDoor

namespace Go.Proofs.YtccejkikphpnfaaGreatDoor
set_option linter.unusedSimpArgs false
set_option linter.unusedVariables false
set_option maxRecDepth 100000
open Go.ChangeShapes Go.WideShapes Go.ChangeAt Go.RowKit

/-- A row of bytes that was made since w1. -/
def Rb (w1 w : World) (e : Option Addr) (d : Nat) (l : List UInt8) : Prop :=
  w.ownsRow 0 5 1 (.slice e l.length d) l.length (bvs l) ∧ Upd (fun _ => False) w1 w ∧ (∀ g, blk e = some g → w1.heap.size ≤ g)
theorem Rb.vw {w1 w : World} {e : Option Addr} {d : Nat} {l : List UInt8} (h : Rb w1 w e d l) : Vw w e l.length d 1 (bvs l) := Vw.of_own h.1
theorem Rb.other {w1 w w' : World} {e : Option Addr} {d : Nat} {l : List UInt8} (h : Rb w1 w e d l) (hU : Upd (fun _ => False) w w') : Rb w1 w' e d l :=
  ⟨ownsRow_upd h.1 hU (fun _ _ h => h), h.2.1.trans hU, h.2.2⟩
theorem Rb.made {w1 w w' : World} {e : Option Addr} {d : Nat} {l l' : List UInt8} {en : Ending} {n : Bool} (h : Rb w1 w e d l) (h' : MadeB w l' n en w') :
    ∃ e' d', en = .returned (.slice e' l'.length d') ∧ Rb w1 w' e' d' l' := by
  obtain ⟨a, c, rfl, hown, hU, hf, _⟩ := h'
  exact ⟨a, c, rfl, hown, h.2.1.trans hU, fun g hg => Nat.le_trans h.2.1.size (hf g hg)⟩
theorem Rb.lit (w1 w : World) (hU : Upd (fun _ => False) w1 w) (x : UInt8) : Rb w1 (w.alloc (.cells #[.int .u8 (x.toNat : Int)] 5)) (some ⟨w.heap.size, 0, none⟩) 1 [x] :=
  ⟨lit_own w x, hU.trans (Upd.alloc _ _ _), fun g hg => by cases hg; exact hU.size⟩
theorem rb_int {w1 w : World} {e : Option Addr} {d : Nat} {l : List UInt8} (h : Rb w1 w e d l) (v : Int) (hl : l.length ≤ 100000000) :
    Calls Tryz.prog 50 #[.slice e l.length d, .int .i64 v] w fun en w' => ∃ e' d', en = .returned (.slice e' (l ++ i4 v).length d') ∧ Rb w1 w' e' d' (l ++ i4 v) :=
  (refInt_any e d l v w h.vw hl).mono (fun _ _ h' => h.made h')
theorem rb_bool {w1 w : World} {e : Option Addr} {d : Nat} {l : List UInt8} (h : Rb w1 w e d l) (b : Bool) (hl : l.length ≤ 100000000) :
    Calls Tryz.prog 56 #[.slice e l.length d, .bool b] w fun en w' => ∃ e' d', en = .returned (.slice e' (l ++ b1 b).length d') ∧ Rb w1 w' e' d' (l ++ b1 b) :=
  (refBool_any e d l b w h.vw hl).mono (fun _ _ h' => h.made h')
theorem rb_text {w1 w : World} {e : Option Addr} {d : Nat} {l : List UInt8} (h : Rb w1 w e d l) (s : List UInt8) (hl : l.length ≤ 100000000) (hs : s.length ≤ 100000000) :
    Calls Tryz.prog 51 #[.slice e l.length d, .string (str s)] w fun en w' => ∃ e' d', en = .returned (.slice e' (l ++ tx s).length d') ∧ Rb w1 w' e' d' (l ++ tx s) := by
  have := refText_any e d l (str s) w h.vw hl (by rw [str_size]; exact hs)
  rw [t4_str] at this
  exact this.mono (fun _ _ h' => h.made h')
/-- What Pack answers. -/
theorem Rb.packed {w0 w1 w : World} {e : Option Addr} {d : Nat} {l : List UInt8} (h : Rb w1 w e d l) (hU : Upd (fun _ => False) w0 w1) :
    Vw w e l.length d 1 (bvs l) ∧ (∀ g, blk e = some g → w0.heap.size ≤ g ∧ g < w.heap.size) ∧ Upd (fun _ => False) w0 w :=
  ⟨h.vw, fun g hg => ⟨Nat.le_trans hU.size (h.2.2 g hg), (h.1.lt g ((own_blk _ _ _).trans hg)).2⟩, hU.trans h.2.1⟩
theorem Rb.app {w1 w w3 : World} {e a3 : Option Addr} {d m c3 : Nat} {L k : List UInt8} (h : Rb w1 w e d L) (hk : k.length = m)
    (hown2 : w3.ownsRow 0 5 1 (.slice a3 (L.length + m) c3) (L.length + m) (bvs L ++ bvs k)) (hg2 : w.grownBy w3 (blk e)) (hat2 : blk a3 = blk e ∨ blk a3 = some w.heap.size) : Rb w1 w3 a3 c3 (L ++ k) :=
  app_next (w := w1) h.2.1 rfl h.2.2 hk hown2 hg2 hat2
end Go.Proofs.YtccejkikphpnfaaGreatDoor

namespace Go.Proofs.YtccejkikphpnfaaGreatDoor
set_option linter.unusedSimpArgs false
set_option linter.unusedVariables false
set_option maxRecDepth 100000
open Go.ChangeShapes Go.WideShapes Go.ChangeAt Go.RowKit

set_option maxHeartbeats 32000000 in
theorem r21PackRoot_gen (r : Rt) (w : World) (h : RtIn w r) : Calls Tryz.prog 12 #[.agg (rtA r)] w (Packed w (rootGR r) (rootGE r)) := by
  have hU1 := Upd.alloc (fun _ => False) w (.cells (rtA r) 26)
  have hrow := heap_alloc_new w (.cells (rtA r) 26)
  have hv1 := h.upd hU1
  have hmr := rootMay_any r (w.alloc (.cells (rtA r) 26)) hv1
  have hsz := rootB_sz r
  have HRR : Hid (rootGR r = if rootB r then rootG r else []) := Lib.hid rfl
  have HRE : Hid (rootGE r = if rootB r then 0 else 5) := Lib.hid rfl
  have HD : Hid (rootG r = [1] ++ i4 r.p ++ i4 r.ks.length ++ kysB r.ks ++ i4 r.ms.length ++ r.ms.flatMap mkB ++ i4 r.ns.length ++ r.ns.flatMap nmB ++ i4 r.k) := Lib.hid rfl
  generalize rootGR r = RL at *
  generalize rootGE r = RE at *
  generalize rootG r = LL at *
  generalize rootB r = R at *
  obtain ⟨p, a, c, ks, ma, mc, ms, na, nc, ns, k⟩ := r
  unfold rtA at *
  dsimp only at *
  have HP := Lib.hid (And.intro hU1 (And.intro hrow hv1))
  have HSZ := Lib.hid hsz
  clear hU1 hrow hv1 h hsz
  go_enter Tryz.func12, Tryz.ntmps12
  go_upto_region 1 with (fail)
  obtain ⟨hU1, hrow, hv1⟩ := HP.out
  generalize w.alloc (.cells #[.int .i64 p, .slice a ks.length c, .slice ma ms.length mc, .slice na ns.length nc, .int .i64 k] 26) = y0 at *
  obtain ⟨RB, hRB⟩ : ∃ B, w.heap.size = B := ⟨_, rfl⟩
  rw [hRB] at hrow ⊢
  have HB : Hid (w.heap.size = RB) := Lib.hid hRB
  have HU0 := Lib.hid hU1
  have HR0 := Lib.hid hrow
  have hz0 := lt_of_heap hrow
  have HZ0 := Lib.hid hz0
  clear hRB hU1 hz0
  have hrow' := hrow
  clear hrow
  have HV0 := Lib.hid hv1
  clear hv1 HP
  go_wp2_with (refine wpList_load_row rfl 26 (.tmp 1) rfl RB #[.int .i64 p, .slice a ks.length c, .slice ma ms.length mc, .slice na ns.length nc, .int .i64 k] 26 (0, 0) _ rfl hrow' Tryz.underlying26 rfl (by rw [infoRoot]; rfl) ?_)
  refine hmr.mono ?_
  rintro e w1 ⟨rfl, hU2⟩
  have HR : Hid (∀ w', Upd (fun _ => False) w1 w' → w'.heap[RB]? = some (.cells #[.int .i64 p, .slice a ks.length c, .slice ma ms.length mc, .slice na ns.length nc, .int .i64 k] 26)) := Lib.hid (fun w' hU => (hU.block RB (Nat.lt_of_lt_of_le HZ0.out hU2.size) (fun h => h)).trans ((hU2.block RB HZ0.out (fun h => h)).trans HR0.out))
  have HCC : Hid (∀ w', Upd (fun _ => False) w1 w' → w'.cell? ⟨RB, 0, none⟩ = some (.int .i64 p) ∧ w'.cell? ⟨RB, 1, none⟩ = some (.slice a ks.length c) ∧ w'.cell? ⟨RB, 2, none⟩ = some (.slice ma ms.length mc) ∧ w'.cell? ⟨RB, 3, none⟩ = some (.slice na ns.length nc) ∧ w'.cell? ⟨RB, 4, none⟩ = some (.int .i64 k)) := Lib.hid (fun w' hU => row5 (HR.out w' hU))
  have HI0 : Hid (∀ w', Upd (fun _ => False) w1 w' → RtIn w' ⟨p, a, c, ks, ma, mc, ms, na, nc, ns, k⟩) := Lib.hid (fun w' hU => HV0.out.upd (hU2.trans hU))
  have HU := Lib.hid (HU0.out.trans hU2)
  clear hmr hU2 HU0 HR0 HZ0 hrow' HV0
  cases R with
  | false =>
    have hRL := HRR.out
    have hRE := HRE.out
    simp only [Bool.false_eq_true, if_false] at hRL hRE
    subst hRL hRE
    go_wp2_with fail
    go_ret2
    exact ⟨none, 0, rfl, Vw.nl _ _, (fun g h => by cases h), HU.out⟩
  | true =>
  obtain ⟨hn, hA, hB⟩ := HSZ.out rfl
  have hRL := HRR.out
  have hRE := HRE.out
  simp only [if_true] at hRL hRE
  subst hRL hRE
  clear HRR HRE HSZ
  generalize hAA : (ms.flatMap mkB).length = A at *
  generalize hBB : (ns.flatMap nmB).length = BB at *
  have HAA := Lib.hid hAA
  have HBB := Lib.hid hBB
  clear hAA hBB
  obtain ⟨i0, hi, hz0, hz1, hz2⟩ := info_parts infoU8
  have HIU := Lib.hid (And.intro hi (And.intro hz0 (And.intro hz1 hz2)))
  clear hi hz0 hz1 hz2
  have hcm := (HI0.out w1 (Upd.refl _ _)).mv.cap
  have hlm := (HI0.out w1 (Upd.refl _ _)).mv.le
  have hcn := (HI0.out w1 (Upd.refl _ _)).nv.cap
  have hln := (HI0.out w1 (Upd.refl _ _)).nv.le
  unfold maxLen at hcm hcn
  dsimp only at hcm hlm hcn hln
  go_upto_region 3 with (fail)
  have hq := HCC.out w1.drew (Upd.drew _ _)
  refine wp_region_plan_last [([1, 2, 4, 5, 6], 0), ([], 3), ([], 7)] [8] (fun w' => w'.cell? ⟨RB, 0, none⟩ = some (.int .i64 p) ∧ w'.cell? ⟨RB, 1, none⟩ = some (.slice a ks.length c)) (by kernel_rfl) (by kernel_rfl) ⟨hq.1, hq.2.1⟩ ?_
  clear hq
  iterate 5
    first
    | (refine plan_skip rfl rfl ?_)
    | (refine plan_take (v := ?_) rfl rfl (fun w' hS => ?_) ?_
       rotate_left
       · skip
         go_simp; try with_reducible rfl)
    simp only [Act.put, List.getElem_toArray, List.getElem_cons_zero, List.getElem_cons_succ, List.setIfInBounds_toArray, List.set_cons_zero, List.set_cons_succ]
  refine plan_act rfl (fun KK hKK => ?_)
  have hI : Rb w1 (w1.drew.alloc (.cells #[.int .u8 1] 5)) (some ⟨w1.drew.heap.size, 0, none⟩) 1 [1] := Rb.lit w1 w1.drew (Upd.drew _ _) 1
  have hrb := rb_int hI p (by simp)
  simp only [List.length_cons, List.length_nil, Nat.zero_add] at hrb
  have hq := HCC.out _ hI.2.1
  have hq0 := And.intro hq.1 hq.2.1
  clear hq hI
  go_wp2_with fail
  refine hKK.out _ _ (.inr hq0) ?_
  clear hq0 hKK
  refine plan_act rfl (fun KK hKK => ?_)
  go_wp2_with fail
  refine hrb.mono ?_
  rintro ee v1 ⟨e1, d1, rfl, hI⟩
  have hlm1 : ([1] ++ i4 p).length ≤ 5 := by rw [List.length_append, i4_length]; simp
  generalize hL : [1] ++ i4 p = m1 at *
  have Hm1 := Lib.hid hL
  clear hL hrb
  have HI := Lib.hid hI
  clear hI
  have hq := HCC.out _ HI.out.2.1
  have hq0 := And.intro hq.1 hq.2.1
  clear hq
  go_wp2_with fail
  refine hKK.out _ _ (.inr hq0) ?_
  clear hq0 hKK
  refine plan_act rfl (fun KK hKK => ?_)
  go_wp2_with fail
  refine (rb_int HI.out (ks.length : Int) (by omega)).mono ?_
  rintro ee v2 ⟨e2, d2, rfl, hI⟩
  have hlm2 : (m1 ++ i4 (ks.length : Int)).length ≤ 9 := by rw [List.length_append, i4_length]; omega
  generalize hL : m1 ++ i4 (ks.length : Int) = m2 at *
  have Hm2 := Lib.hid hL
  clear HI hL
  have HI := Lib.hid hI
  clear hI
  have hq := HCC.out _ HI.out.2.1
  have hq0 := And.intro hq.1 hq.2.1
  clear hq
  go_wp2_with fail
  refine hKK.out _ _ (.inr hq0) ?_
  clear hq0 hKK
  iterate 1
    first
    | (refine plan_lskip rfl rfl ?_)
    | (refine plan_last (v := ?_) rfl rfl (fun w' hS => ?_) ?_
       rotate_left
       · skip
         go_simp; try with_reducible rfl)
    simp only [Act.put, List.getElem_toArray, List.getElem_cons_zero, List.getElem_cons_succ, List.setIfInBounds_toArray, List.set_cons_zero, List.set_cons_succ]
  refine plan_end ?_
  go_wp2_with fail
  go_loopw [4, 5] (fun s i wr => ∃ (j : Nat) (e : Option Addr) (d : Nat) (L : List UInt8), Hid (L = m2 ++ kysB (ks.take j)) ∧ j ≤ ks.length ∧ s = .slice e L.length d ∧ i = .int .i64 (j : Int) ∧ Hid (Rb w1 wr e d L)) (fun _ i _ => ks.length - (intOf i).toNat)
  case atStart => exact ⟨0, e2, d2, m2, Lib.hid (by simp [kysB]), Nat.zero_le _, rfl, rfl, HI⟩
  case round =>
    clear HI
    obtain ⟨j, e, d, L, HLj, hj, rfl, rfl, HI⟩ := hrel
    have hlL : L.length ≤ 70000 := by have := kysB_le ks j hn; rw [HLj.out, List.length_append]; omega
    obtain ⟨z0, z1, z2, z3, z4⟩ := HCC.out _ HI.out.2.1
    clear z0 z3 z4
    by_cases hlt : j < ks.length
    · have hI : (j : Int) < (ks.length : Int) := by omega
      obtain ⟨b, o, hb, hcell⟩ := ky_at (HI0.out _ HI.out.2.1).cv (show 0 < ks.length by omega)
      dsimp only at hb hcell
      subst hb
      have hrg : wr.rangeAt b (o + j * 32) (bvs ks[j].b) := hcell j hlt
      have hk32 := ks[j].h
      have hsucc : L ++ ks[j].b = m2 ++ kysB (ks.take (j + 1)) := by rw [HLj.out, List.append_assoc, kysB_succ ks j hlt]
      generalize ks[j].b = kb at *
      have hsrc := key_src hk32 hrg
      have hown := HI.out.1
      have HSU := Lib.hid hsucc
      clear hcell hsucc hrg
      have hi := HIU.out.1
      have hz0 := HIU.out.2.1
      have hz1 := HIU.out.2.2.1
      have hz2 := HIU.out.2.2.2
      go_upto_region 7 with (fail)
      go_wp2_with (at_builtin; refine wpList_app _ rfl (.tmp 27) (.tmp 32) 33 33 rfl 5 i0 (.int .u8 0) 1 1 Tryz.underlying33 hi hz0 hz1 hz2 rfl e L.length d (bvs L) rfl hown (.slice (some ⟨b, o + j * 32, none⟩) 32 32) 32 (bvs kb) rfl hsrc ?_ ?_ ?_)
      · unfold maxLen; omega
      · omega
      clear hi hz0 hz1 hz2
      intro a3 c3 w3 hown3 hg3 hat3 hnil3
      have HI3 := Lib.hid (HI.out.app hk32 hown3 hg3 hat3)
      have hlen3 : L.length + 32 = (L ++ kb).length := by rw [List.length_append, hk32]
      clear hown3 hg3 hat3 hnil3 hsrc hown z1 z2
      go_wp2_with fail
      go_roundw
      case rel => exact ⟨j + 1, a3, c3, L ++ kb, Lib.hid HSU.out, by omega, by rw [hlen3], by first | rfl | go_num, HI3⟩
      case measure => simp [intOf]; omega
    · obtain rfl : j = ks.length := by omega
      have HLL := HLj.out
      rw [List.take_length] at HLL
      have HLk := Lib.hid HLL
      have hI : ¬ (ks.length : Int) < (ks.length : Int) := by omega
      clear HLj HLL hlt hj
      go_wp2_with fail
      clear z1 hI
      refine (rb_int HI.out (ms.length : Int) (by omega)).mono ?_
      rintro ee v3 ⟨e3, d3, rfl, hI⟩
      have hlm3 : (L ++ i4 (ms.length : Int)).length ≤ 70004 := by rw [List.length_append, i4_length]; omega
      generalize hL : L ++ i4 (ms.length : Int) = m3 at *
      have Hm3 := Lib.hid hL
      clear HI hL
      have HI := Lib.hid hI
      clear hI
      clear z2
      go_wp2_with fail
      go_loopw [4, 6] (fun s i wr => ∃ (j : Nat) (e : Option Addr) (d : Nat) (L : List UInt8), Hid (L = m3 ++ (ms.take j).flatMap mkB) ∧ j ≤ ms.length ∧ s = .slice e L.length d ∧ i = .int .i64 (j : Int) ∧ Hid (Rb w1 wr e d L)) (fun _ i _ => ms.length - (intOf i).toNat)
      case atStart => exact ⟨0, e3, d3, m3, Lib.hid (by simp), Nat.zero_le _, rfl, rfl, HI⟩
      case round =>
        clear HI
        obtain ⟨j, e, d, L, HLj, hj, rfl, rfl, HI⟩ := hrel
        obtain ⟨z0, z1, z2, z3, z4⟩ := HCC.out _ HI.out.2.1
        clear z0 z1 z4
        by_cases hlt : j < ms.length
        · have hI : (j : Int) < (ms.length : Int) := by omega
          obtain ⟨b, o, hb, _⟩ := (HI0.out w1 (Upd.refl _ _)).mv.at (show 0 < ms.length by omega) (by decide)
          dsimp only at hb
          subst hb
          have HQ : Hid (∀ w', Upd (fun _ => False) w1 w' → w'.cell? ⟨RB, 2, none⟩ = some (.slice (some ⟨b, o, none⟩) ms.length mc) ∧ w'.cell? ⟨b, o + j * 2, none⟩ = some (.int .i64 ms[j].old) ∧ w'.cell? ⟨b, o + j * 2 + 1, none⟩ = some (.slice ms[j].a ms[j].new.length ms[j].c)) := Lib.hid (fun w' hU => by
            obtain ⟨b', o', hb', hcell⟩ := (HI0.out w' hU).mv.at (show 0 < ms.length by omega) (by decide)
            cases hb'
            exact ⟨(HCC.out w' hU).2.2.1, hcell (j * 2 + 0) _ (mk_get ms j 0 hlt (by decide)), hcell (j * 2 + 1) _ (mk_get ms j 1 hlt (by decide))⟩)
          have HMX : Hid (∀ w', Upd (fun _ => False) w1 w' → MkIn w' ms[j]) := Lib.hid (fun w' hU => (HI0.out w' hU).me ms[j] (List.getElem_mem hlt))
          have hsucc := flatMap_succ mkB ms j hlt
          have hlen : (L ++ mkB ms[j]).length ≤ 18000000 := by
            have h1 := flat_take_le mkB ms (j + 1)
            rw [HAA.out] at h1
            rw [HLj.out, List.append_assoc, hsucc, List.length_append]
            omega
          rw [List.length_append, mkB_len] at hlen
          have HSU := Lib.hid hsucc
          clear hsucc z2 z3
          generalize ms[j] = x at *
          obtain ⟨xo, xn, xa, xc⟩ := x
          dsimp only at *
          obtain ⟨z2, z5, z6⟩ := HQ.out _ HI.out.2.1
          go_upto_region 12 with (fail)
          clear z2 z5 z6 hI
          have hq0 := HQ.out _ (HI.out.2.1.trans (Upd.drew _ _))
          refine wp_region_plan_last [([0, 1, 2, 3, 4, 5, 6, 8, 9, 10, 11, 12, 13, 14], 7), ([], 15)] [16] (fun w' => w'.cell? ⟨RB, 2, none⟩ = some (.slice (some ⟨b, o, none⟩) ms.length mc) ∧ w'.cell? ⟨b, o + j * 2, none⟩ = some (.int .i64 xo) ∧ w'.cell? ⟨b, o + j * 2 + 1, none⟩ = some (.slice xa xn.length xc)) (by kernel_rfl) (by kernel_rfl) hq0 ?_
          clear hq0
          have hI := HI.out.other (Upd.drew _ _)
          clear HI
          have HI := Lib.hid hI
          clear hI
          iterate 14
            first
            | (refine plan_skip rfl rfl ?_)
            | (refine plan_take (v := ?_) rfl rfl (fun w' hS => ?_) ?_
               rotate_left
               · skip
                 go_simp; try with_reducible rfl)
            simp only [Act.put, List.getElem_toArray, List.getElem_cons_zero, List.getElem_cons_succ, List.setIfInBounds_toArray, List.set_cons_zero, List.set_cons_succ]
          refine plan_act rfl (fun KK hKK => ?_)
          go_wp2_with fail
          refine (rb_int HI.out xo (by omega)).mono ?_
          rintro ee v4 ⟨e4, d4, rfl, hI⟩
          have hlm4 : (L ++ i4 xo).length ≤ L.length + 4 := by rw [List.length_append, i4_length]; omega
          generalize hL : L ++ i4 xo = m4 at *
          have Hm4 := Lib.hid hL
          clear HI hL
          have HI := Lib.hid hI
          clear hI
          have hq0 := HQ.out _ HI.out.2.1
          go_wp2_with fail
          refine hKK.out _ _ (.inr hq0) ?_
          clear hq0 hKK
          refine plan_act rfl (fun KK hKK => ?_)
          go_wp2_with fail
          refine (rb_int HI.out (xn.length : Int) (by omega)).mono ?_
          rintro ee v5 ⟨e5, d5, rfl, hI⟩
          have hlm5 : (m4 ++ i4 (xn.length : Int)).length ≤ L.length + 8 := by rw [List.length_append, i4_length]; omega
          generalize hL : m4 ++ i4 (xn.length : Int) = m5 at *
          have Hm5 := Lib.hid hL
          clear HI hL
          have HI := Lib.hid hI
          clear hI
          have hq0 := HQ.out _ HI.out.2.1
          go_wp2_with fail
          refine hKK.out _ _ (.inr hq0) ?_
          clear hq0 hKK
          iterate 1
            first
            | (refine plan_lskip rfl rfl ?_)
            | (refine plan_last (v := ?_) rfl rfl (fun w' hS => ?_) ?_
               rotate_left
               · skip
                 go_simp; try with_reducible rfl)
            simp only [Act.put, List.getElem_toArray, List.getElem_cons_zero, List.getElem_cons_succ, List.setIfInBounds_toArray, List.set_cons_zero, List.set_cons_succ]
          refine plan_end ?_
          go_wp2_with fail
          have hcx := (HMX.out _ HI.out.2.1).cap
          have hlx := (HMX.out _ HI.out.2.1).le
          unfold maxLen at hcx
          dsimp only at hcx hlx
          go_loopw [4, 7] (fun s i wz => ∃ (q : Nat) (e : Option Addr) (d : Nat) (M : List UInt8), Hid (M = m5 ++ (xn.take q).flatMap i4) ∧ q ≤ xn.length ∧ s = .slice e M.length d ∧ i = .int .i64 (q : Int) ∧ Hid (Rb w1 wz e d M)) (fun _ i _ => xn.length - (intOf i).toNat)
          case atStart => exact ⟨0, e5, d5, m5, Lib.hid (by simp), Nat.zero_le _, rfl, rfl, HI⟩
          case round =>
            clear HI
            obtain ⟨q, e, d, M, HMq, hq, rfl, rfl, HI⟩ := hrel
            have hlM : M.length ≤ 18000000 := by
              have h1 := numsB_len (xn.take q)
              unfold numsB at h1
              rw [List.length_append, i4_length, List.length_take] at h1
              rw [HMq.out, List.length_append]
              omega
            obtain ⟨z2, z5, z6⟩ := HQ.out _ HI.out.2.1
            clear z5
            by_cases hlt2 : q < xn.length
            · have hI : (q : Int) < (xn.length : Int) := by omega
              obtain ⟨b2, o2, hb2, hcell⟩ := (show Vw _ xa xn.length xc 1 (xn.map iv) from HMX.out _ HI.out.2.1).at (by omega) (by decide)
              subst hb2
              have qv := hcell q _ (iv_at xn q hlt2)
              have hs2 := flatMap_succ i4 xn q hlt2
              clear hcell
              generalize xn[q] = v at *
              have HS2 := Lib.hid hs2
              clear hs2
              go_wp2_with fail
              refine (rb_int HI.out v (by omega)).mono ?_
              rintro ee v6 ⟨e6, d6, rfl, hI⟩
              have hlm6 : (M ++ i4 v).length ≤ M.length + 4 := by rw [List.length_append, i4_length]; omega
              generalize hL : M ++ i4 v = m6 at *
              have Hm6 := Lib.hid hL
              clear HI hL
              have HI := Lib.hid hI
              clear hI
              have HN : Hid (m6 = m5 ++ (xn.take (q + 1)).flatMap i4) := Lib.hid (by rw [← Hm6.out, HMq.out, List.append_assoc, HS2.out])
              clear z2 z6 qv
              go_wp2_with fail
              go_roundw
              case rel => exact ⟨q + 1, e6, d6, m6, HN, by omega, rfl, by first | rfl | go_num, HI⟩
              case measure => simp [intOf]; omega
            · obtain rfl : q = xn.length := by omega
              have hI : ¬ (xn.length : Int) < (xn.length : Int) := by omega
              have HN : Hid (M = m3 ++ (ms.take (j + 1)).flatMap mkB) := Lib.hid (by
                rw [HMq.out, List.take_length, ← HSU.out, ← Hm5.out, ← Hm4.out, HLj.out]
                simp [mkB, numsB])
              clear hlt2 hq
              go_wp2_with fail
              clear z2 z6 hI
              go_wp2_with fail
              go_roundw
              case rel => exact ⟨j + 1, e, d, M, HN, by omega, rfl, by first | rfl | go_num, HI⟩
              case measure => simp [intOf]; omega
        · obtain rfl : j = ms.length := by omega
          have HLL := HLj.out
          rw [List.take_length] at HLL
          have hlL : L.length ≤ 18000000 := by rw [HLL, List.length_append, HAA.out]; omega
          have HLm := Lib.hid HLL
          have hI : ¬ (ms.length : Int) < (ms.length : Int) := by omega
          clear HLj HLL hlt hj
          go_wp2_with fail
          clear z2 hI
          refine (rb_int HI.out (ns.length : Int) (by omega)).mono ?_
          rintro ee v7 ⟨e7, d7, rfl, hI⟩
          have hlm7 : (L ++ i4 (ns.length : Int)).length ≤ 18000004 := by rw [List.length_append, i4_length]; omega
          generalize hL : L ++ i4 (ns.length : Int) = m7 at *
          have Hm7 := Lib.hid hL
          clear HI hL
          have HI := Lib.hid hI
          clear hI
          clear z3
          go_wp2_with fail
          go_loopw [4, 8] (fun s i wr => ∃ (j : Nat) (e : Option Addr) (d : Nat) (L : List UInt8), Hid (L = m7 ++ (ns.take j).flatMap nmB) ∧ j ≤ ns.length ∧ s = .slice e L.length d ∧ i = .int .i64 (j : Int) ∧ Hid (Rb w1 wr e d L)) (fun _ i _ => ns.length - (intOf i).toNat)
          case atStart => exact ⟨0, e7, d7, m7, Lib.hid (by simp), Nat.zero_le _, rfl, rfl, HI⟩
          case round =>
            clear HI
            obtain ⟨j, e, d, L, HLj, hj, rfl, rfl, HI⟩ := hrel
            obtain ⟨z0, z1, z2, z3, z4⟩ := HCC.out _ HI.out.2.1
            clear z0 z1 z2
            by_cases hlt : j < ns.length
            · have hI : (j : Int) < (ns.length : Int) := by omega
              obtain ⟨b, o, hb, _⟩ := (HI0.out w1 (Upd.refl _ _)).nv.at (show 0 < ns.length by omega) (by decide)
              dsimp only at hb
              subst hb
              have HQ : Hid (∀ w', Upd (fun _ => False) w1 w' → w'.cell? ⟨RB, 3, none⟩ = some (.slice (some ⟨b, o, none⟩) ns.length nc) ∧ w'.cell? ⟨b, o + j * 2, none⟩ = some (.string (str ns[j].name)) ∧ w'.cell? ⟨b, o + j * 2 + 1, none⟩ = some (.int .i64 ns[j].com)) := Lib.hid (fun w' hU => by
                obtain ⟨b', o', hb', hcell⟩ := (HI0.out w' hU).nv.at (show 0 < ns.length by omega) (by decide)
                cases hb'
                exact ⟨(HCC.out w' hU).2.2.2.1, hcell (j * 2 + 0) _ (nm_get ns j 0 hlt (by decide)), hcell (j * 2 + 1) _ (nm_get ns j 1 hlt (by decide))⟩)
              have hsucc := flatMap_succ nmB ns j hlt
              have hlen : (L ++ nmB ns[j]).length ≤ 19000000 := by
                have h1 := flat_take_le nmB ns (j + 1)
                rw [HBB.out] at h1
                rw [HLj.out, List.append_assoc, hsucc, List.length_append]
                omega
              rw [List.length_append, nmB_len] at hlen
              have HSU := Lib.hid hsucc
              clear hsucc z3 z4
              generalize ns[j] = x at *
              obtain ⟨xn, xc⟩ := x
              dsimp only at *
              obtain ⟨z2, z5, z6⟩ := HQ.out _ HI.out.2.1
              go_upto_region 21 with (fail)
              clear z2 z5 z6 hI
              have hq0 := HQ.out _ (HI.out.2.1.trans (Upd.drew _ _))
              refine wp_region_plan_last [([0, 1, 2, 3, 4, 5, 6, 8, 9, 10, 11, 12, 13], 7), ([], 14)] [15] (fun w' => w'.cell? ⟨RB, 3, none⟩ = some (.slice (some ⟨b, o, none⟩) ns.length nc) ∧ w'.cell? ⟨b, o + j * 2, none⟩ = some (.string (str xn)) ∧ w'.cell? ⟨b, o + j * 2 + 1, none⟩ = some (.int .i64 xc)) (by kernel_rfl) (by kernel_rfl) hq0 ?_
              clear hq0
              have hI := HI.out.other (Upd.drew _ _)
              clear HI
              have HI := Lib.hid hI
              clear hI
              iterate 13
                first
                | (refine plan_skip rfl rfl ?_)
                | (refine plan_take (v := ?_) rfl rfl (fun w' hS => ?_) ?_
                   rotate_left
                   · skip
                     go_simp; try with_reducible rfl)
                simp only [Act.put, List.getElem_toArray, List.getElem_cons_zero, List.getElem_cons_succ, List.setIfInBounds_toArray, List.set_cons_zero, List.set_cons_succ]
              refine plan_act rfl (fun KK hKK => ?_)
              go_wp2_with fail
              refine (rb_text HI.out xn (by omega) (by omega)).mono ?_
              rintro ee v8 ⟨e8, d8, rfl, hI⟩
              have hlm8 : (L ++ tx xn).length ≤ L.length + 4 + xn.length := by rw [List.length_append, tx_len]; omega
              generalize hL : L ++ tx xn = m8 at *
              have Hm8 := Lib.hid hL
              clear HI hL
              have HI := Lib.hid hI
              clear hI
              have hq0 := HQ.out _ HI.out.2.1
              go_wp2_with fail
              refine hKK.out _ _ (.inr hq0) ?_
              clear hq0 hKK
              refine plan_act rfl (fun KK hKK => ?_)
              go_wp2_with fail
              refine (rb_int HI.out xc (by omega)).mono ?_
              rintro ee v9 ⟨e9, d9, rfl, hI⟩
              have hlm9 : (m8 ++ i4 xc).length ≤ L.length + 8 + xn.length := by rw [List.length_append, i4_length]; omega
              generalize hL : m8 ++ i4 xc = m9 at *
              have Hm9 := Lib.hid hL
              clear HI hL
              have HI := Lib.hid hI
              clear hI
              have hq0 := HQ.out _ HI.out.2.1
              go_wp2_with fail
              refine hKK.out _ _ (.inr hq0) ?_
              clear hq0 hKK
              iterate 1
                first
                | (refine plan_lskip rfl rfl ?_)
                | (refine plan_last (v := ?_) rfl rfl (fun w' hS => ?_) ?_
                   rotate_left
                   · skip
                     go_simp; try with_reducible rfl)
                simp only [Act.put, List.getElem_toArray, List.getElem_cons_zero, List.getElem_cons_succ, List.setIfInBounds_toArray, List.set_cons_zero, List.set_cons_succ]
              refine plan_end ?_
              have HN : Hid (m9 = m7 ++ (ns.take (j + 1)).flatMap nmB) := Lib.hid (by
                rw [← HSU.out, ← Hm9.out, ← Hm8.out, HLj.out]
                simp [nmB])
              go_wp2_with fail
              go_roundw
              case rel => exact ⟨j + 1, e9, d9, m9, HN, by omega, rfl, by first | rfl | go_num, HI⟩
              case measure => simp [intOf]; omega
            · obtain rfl : j = ns.length := by omega
              have HLL := HLj.out
              rw [List.take_length] at HLL
              have hlL : L.length ≤ 19000000 := by rw [HLL, List.length_append, HBB.out]; omega
              have HLn := Lib.hid HLL
              have hI : ¬ (ns.length : Int) < (ns.length : Int) := by omega
              clear HLj HLL hlt hj
              go_wp2_with fail
              clear z3 hI
              refine (rb_int HI.out k (by omega)).mono ?_
              rintro ee v10 ⟨e10, d10, rfl, hI⟩
              have hlm10 : (L ++ i4 k).length ≤ 19000008 := by rw [List.length_append, i4_length]; omega
              generalize hL : L ++ i4 k = m10 at *
              have Hm10 := Lib.hid hL
              clear HI hL
              have HI := Lib.hid hI
              clear hI
              have hLL : RL = m10 := by rw [HD.out, ← Hm10.out, HLn.out, ← Hm7.out, HLm.out, ← Hm3.out, HLk.out, ← Hm2.out, ← Hm1.out]
              subst hLL
              have HF := Lib.hid (HI.out.packed HU.out)
              clear z4 HI
              go_wp2_with fail
              go_ret2
              exact ⟨e10, d10, rfl, HF.out⟩
end Go.Proofs.YtccejkikphpnfaaGreatDoor

namespace Go.Proofs.YtccejkikphpnfaaGreatDoor
set_option linter.unusedSimpArgs false
set_option linter.unusedVariables false
set_option maxRecDepth 100000
open Go.ChangeShapes Go.WideShapes Go.ChangeAt Go.RowKit

/-- It answers; nothing changes. -/
def Told (w : World) (e : Ending) (w' : World) : Prop := ∃ b, e = .returned (.bool b) ∧ Upd (fun _ => False) w w'
set_option maxHeartbeats 8000000 in
theorem few21_any (r : Rt) (p : Wt) (w : World) (h : RtIn w r) (hp : WtIn w p) : Calls Tryz.prog 9 #[.agg (rtA r), .agg (wtA p)] w (Told w) := by
  have hU1 := Upd.alloc (fun _ => False) w (.cells (rtA r) 26)
  have hrow1 := heap_alloc_new w (.cells (rtA r) 26)
  have hU2 := Upd.alloc (fun _ => False) (w.alloc (.cells (rtA r) 26)) (.cells (wtA p) 30)
  have hrow2 := heap_alloc_new (w.alloc (.cells (rtA r) 26)) (.cells (wtA p) 30)
  rw [show (w.alloc (.cells (rtA r) 26)).heap.size = w.heap.size + 1 from by simp] at hrow2
  have hrow1' := (hU2.block _ (lt_of_heap hrow1) (fun h => h)).trans hrow1
  have hi := h.upd (hU1.trans hU2)
  have hj := hp.upd (hU1.trans hU2)
  have hcm := h.mv.cap
  have hlm := h.mv.le
  have hcs := hp.sv.cap
  have hls := hp.sv.le
  unfold maxLen at hcm hcs
  obtain ⟨q, ca, cc, ks, ma, mc, ms, na, nc, ns, k⟩ := r
  obtain ⟨on, re, src, dst, sa, sc, ss, com, cla, clc, cs⟩ := p
  unfold rtA wtA at *
  dsimp only at *
  have HP := Lib.hid (And.intro (hU1.trans hU2) (And.intro hrow1' (And.intro hrow2 (And.intro hi hj))))
  clear hU1 hrow1 hU2 hrow2 hrow1' hi hj h hp
  go_enter Tryz.func9, Tryz.ntmps9
  go_upto_region 1 with (fail)
  obtain ⟨hU, hr1, hr2, hi, hj⟩ := HP.out
  generalize (w.alloc (Obj.cells #[.int .i64 q, .slice ca ks.length cc, .slice ma ms.length mc, .slice na ns.length nc, .int .i64 k] 26)).alloc (Obj.cells #[.bool on, .bool re, .int .i64 src, .int .i64 dst, .slice sa ss.length sc, .int .i64 com, .slice cla cs.length clc] 30) = y0 at *
  generalize w.heap.size = RB at *
  have HU := Lib.hid hU
  have HI := Lib.hid hi
  have HJ := Lib.hid hj
  have HCC : Hid (∀ w', Upd (fun _ => False) y0 w' → w'.cell? ⟨RB, 1, none⟩ = some (.slice ca ks.length cc) ∧ w'.cell? ⟨RB, 2, none⟩ = some (.slice ma ms.length mc) ∧ w'.cell? ⟨RB, 3, none⟩ = some (.slice na ns.length nc) ∧ w'.cell? ⟨RB + 1, 4, none⟩ = some (.slice sa ss.length sc) ∧ w'.cell? ⟨RB + 1, 6, none⟩ = some (.slice cla cs.length clc)) := Lib.hid (fun w' h => by
    obtain ⟨a0, a1, a2, a3, a4⟩ := row5 ((h.block RB (lt_of_heap hr1) (fun h => h)).trans hr1)
    obtain ⟨c0, c1, c2, c3, c4, c5, c6⟩ := row7 ((h.block (RB + 1) (lt_of_heap hr2) (fun h => h)).trans hr2)
    exact ⟨a1, a2, a3, c4, c6⟩)
  obtain ⟨z0, z1, z2, z3, z4⟩ := HCC.out y0 (Upd.refl _ _)
  clear hU hr1 hr2 hi hj HP
  go_upto_block 0 with (fail)
  go_cut [5] (fun v wx => ∃ z : Int, v = .int .i64 z ∧ Hid (Upd (fun _ => False) y0 wx))
  case first =>
    go_wp2_with fail
    go_loopw [5, 6] (fun v i wr => ∃ (j : Nat) (z : Int), j ≤ ms.length ∧ i = .int .i64 (j : Int) ∧ v = .int .i64 z ∧ Hid (Upd (fun _ => False) y0 wr)) (fun _ i _ => ms.length - (intOf i).toNat)
    case atStart => exact ⟨0, _, Nat.zero_le _, rfl, rfl, Lib.hid (Upd.refl _ _)⟩
    case round =>
      obtain ⟨j, z, hj, rfl, rfl, HUr⟩ := hrel
      obtain ⟨z0, z1, z2, z3, z4⟩ := HCC.out _ HUr.out
      clear z0 z2 z3 z4
      by_cases hlt : j < ms.length
      case neg =>
        have hI : ¬ (j : Int) < (ms.length : Int) := by omega
        go_wp2_with fail
        go_meet
        case rel => exact ⟨z, rfl, HUr⟩
      by_cases hz : z < 200
      case neg =>
        have hI : (j : Int) < (ms.length : Int) := by omega
        have hZ : decide (z < 200) = false := decide_eq_false hz
        go_wp2_with fail
        go_meet
        case rel => exact ⟨z, rfl, HUr⟩
      have hI : (j : Int) < (ms.length : Int) := by omega
      obtain ⟨b, o, hb, hcell⟩ := (HI.out.mv.upd HUr.out (fun _ _ h => h)).at (show 0 < ms.length by omega) (by decide)
      dsimp only at hb
      subst hb
      have q1 : wr.cell? ⟨b, o + j * 2 + 1, none⟩ = some (.slice ms[j].a ms[j].new.length ms[j].c) := hcell (j * 2 + 1) _ (mk_get ms j 1 hlt (by decide))
      clear hcell
      generalize ms[j] = x at *
      obtain ⟨xo, xn, xa, xc⟩ := x
      dsimp only at *
      go_wp2_with fail
      clear z1 q1
      go_roundw
      case rel => exact ⟨j + 1, _, by omega, by first | rfl | go_num, rfl, HUr⟩
      case measure => simp [intOf]; omega
  case rest =>
    obtain ⟨z, rfl, HU1⟩ := hcut
    go_wp2_with fail
    go_loopw [5, 7] (fun v i wr => ∃ (j : Nat) (z : Int), j ≤ ss.length ∧ i = .int .i64 (j : Int) ∧ v = .int .i64 z ∧ Hid (Upd (fun _ => False) y0 wr)) (fun _ i _ => ss.length - (intOf i).toNat)
    case atStart => exact ⟨0, _, Nat.zero_le _, rfl, rfl, HU1⟩
    case round =>
      obtain ⟨j, z, hj, rfl, rfl, HUr⟩ := hrel
      obtain ⟨z0, z1, z2, z3, z4⟩ := HCC.out _ HUr.out
      clear z0 z1 z2 z4
      by_cases hlt : j < ss.length
      case neg =>
        have hI : ¬ (j : Int) < (ss.length : Int) := by omega
        go_wp2_with fail
        go_ret
        exact ⟨decide (z < 120), rfl, HU.out.trans HUr.out⟩
      by_cases hz : z < 200
      case neg =>
        have hI : (j : Int) < (ss.length : Int) := by omega
        have hZ : decide (z < 200) = false := decide_eq_false hz
        go_wp2_with fail
        go_ret
        exact ⟨decide (z < 120), rfl, HU.out.trans HUr.out⟩
      have hI : (j : Int) < (ss.length : Int) := by omega
      obtain ⟨b, o, hb, hcell⟩ := (HJ.out.sv.upd HUr.out (fun _ _ h => h)).at (show 0 < ss.length by omega) (by decide)
      dsimp only at hb
      subst hb
      have q1 : wr.cell? ⟨b, o + j * 2 + 1, none⟩ = some (.slice ss[j].a ss[j].fs.length ss[j].c) := hcell (j * 2 + 1) _ (st_get ss j 1 hlt (by decide))
      clear hcell
      generalize ss[j] = x at *
      obtain ⟨xo, xn, xa, xc⟩ := x
      dsimp only at *
      go_wp2_with fail
      clear z3 q1
      go_roundw
      case rel => exact ⟨j + 1, _, by omega, by first | rfl | go_num, rfl, HUr⟩
      case measure => simp [intOf]; omega
end Go.Proofs.YtccejkikphpnfaaGreatDoor
