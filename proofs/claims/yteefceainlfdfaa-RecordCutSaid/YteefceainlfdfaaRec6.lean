
/- The records that bytes begin with: the reference's Scan. -/
import Derived.Test.YteefceainlfdfaaRec5
namespace Go.Proofs.Yteefceainlfdfaa
set_option linter.unusedSimpArgs false
set_option linter.unusedVariables false
open Go.ChangeShapes Go.WideShapes Go.ChangeAt Go.RowKit

theorem slice_mid (a : Option Addr) (c lo hi m : Nat) (lo' hi' : Int) (w : World) (e1 : lo' = (lo : Int)) (e2 : hi' = (hi : Int)) (h1 : lo ≤ hi) (h2 : hi ≤ m) (hc : m ≤ c) (hcap : c ≤ maxLen) (hn : a = none → c = 0) :
    (Instr.slice 22 (.slice a m c) (some (.int .i64 lo')) (some (.int .i64 hi')) none).run Try.prog w = .ok (.slice (if c = lo then a else a.map (·.add (lo * 1))) (hi - lo) (c - lo)) w := by
  subst e1
  subst e2
  unfold maxLen at hcap
  obtain ⟨i0, hin, hz0, hz1, hz2⟩ := info_parts infoU8
  by_cases e : c = lo
  · subst e
    have : m = c := by omega
    subst this
    have : hi = m := by omega
    subst this
    go_simp
  · rw [if_neg e, Nat.mul_one]
    go_simp
    try omega
theorem takeR_one (D : List UInt8) (h : 8 ≤ D.length) : takeS (heldN 4) ⟨D, 0⟩ = (D.take 4, ⟨D.drop 4, 0⟩) := by
  rw [four_heldN, takeS, if_neg (by simp), if_neg (by simp; omega)]
theorem takeR_two (D : List UInt8) (h : 8 ≤ D.length) : takeS (heldN 4) ⟨D.drop 4, 0⟩ = ((D.drop 4).take 4, ⟨(D.drop 4).drop 4, 0⟩) := by
  rw [four_heldN, takeS, if_neg (by simp), if_neg (by simp; omega)]
theorem blk_add {a : Option Addr} {c n k : Nat} (hk : blk (if c = n then a else a.map (·.add (n * 1))) = some k) : blk a = some k := by
  split at hk
  · exact hk
  · cases a with
    | none => cases hk
    | some x => simp only [blk, Option.map_some, Addr.add] at hk ⊢; split at hk <;> exact hk

set_option maxRecDepth 100000 in
set_option maxHeartbeats 4000000 in
theorem refScan_any (a : Option Addr) (c : Nat) (l : List UInt8) (w : World) (hv : Vw w a l.length c 1 (bvs l)) (hl : l.length ≤ 1000000) (hlb : ∀ b, blk a = some b → b < w.heap.size) :
    Calls Try.prog 10 #[.slice a l.length c] w (Scanned w l) := by
  obtain ⟨i0, hi, hz0, hz1, hz2⟩ := info_parts infoBytes
  have HIU := Lib.hid (And.intro hi (And.intro hz0 (And.intro hz1 hz2)))
  clear hi hz0 hz1 hz2
  obtain ⟨j0, hj, hy0, hy1, hy2⟩ := info_parts infoU8
  have HJU := Lib.hid (And.intro hj (And.intro hy0 (And.intro hy1 hy2)))
  clear hj hy0 hy1 hy2
  have HV := Lib.hid hv
  have hcap := hv.cap
  have hlc := hv.le
  have hnil := hv.nil
  have HLB := Lib.hid hlb
  clear hlb hv
  obtain ⟨B, hB⟩ : ∃ B, w.heap.size = B := ⟨_, rfl⟩
  have HB := Lib.hid hB
  clear hB
  go_enter Try.func10, Try.ntmps10
  go_wp2_with fail
  go_loopw [4, 5] (fun v i wr => ∃ (ts : List Tri) (n : Nat) (ar : Option Addr) (cr : Nat), n ≤ l.length ∧ ts.length ≤ n ∧ v = .slice ar ts.length cr ∧ i = .int .i64 (n : Int) ∧ Hid (Far l (ts.map (·.2.2)) n) ∧ Recs B wr ar cr ts ∧ Upd (fun i => B ≤ i) w wr) (fun _ i _ => l.length - (intOf i).toNat)
  case atStart => exact ⟨[], 0, none, 0, by omega, by simp, rfl, rfl, Far.start l, Recs.nil B w, Upd.refl _ _⟩
  case round =>
    obtain ⟨ts, n, ar, cr, hn, hts, rfl, rfl, hF, hR, hU⟩ := hrel
    have hzB := hU.size
    by_cases h8 : n + 8 ≤ l.length
    · have hI : (8 : Int) ≤ (l.length : Int) - (n : Int) := by omega
      have hvr := HV.out.upd hU (fun k hk h => by have := HLB.out k hk; have := HB.out; omega)
      have hrf : Rf (wr.alloc (Obj.cells #[.slice a l.length c, .int .i64 (n : Int), .int .i64 0] 43)) wr.heap.size (blk a) ⟨l.drop n, 0⟩ :=
        ⟨⟨a, c, l, n, 0, heap_alloc_new _ _, hvr.upd (Upd.alloc (fun _ => False) _ _) (fun _ _ h => h), rfl, hn, by omega, by simp [absR]⟩, fun e => by have := HLB.out _ e; omega⟩
      have hUa := Upd.alloc (fun _ => False) wr (Obj.cells #[.slice a l.length c, .int .i64 (n : Int), .int .i64 0] 43)
      have hD8 : 8 ≤ (l.drop n).length := by simp; omega
      have ht1 := takeR_one (l.drop n) hD8
      have ht2 := takeR_two (l.drop n) hD8
      have hn32 : sizeL (l.drop n) < 4294967296 := le4_lt _ (by simp; omega)
      have hm32 : saidL (l.drop n) < 4294967296 := le4_lt _ (by simp; omega)
      have hnum1 := fun (br : Nat) (F : Option Nat) (w : World) (hR : Rf w br F ⟨l.drop n, 0⟩) => rfnum_any br F ⟨l.drop n, 0⟩ 4 w hR
      have hnum2 := fun (br : Nat) (F : Option Nat) (w : World) (hR : Rf w br F ⟨(l.drop n).drop 4, 0⟩) => rfnum_any br F ⟨(l.drop n).drop 4, 0⟩ 4 w hR
      simp only [ht1] at hnum1
      simp only [ht2] at hnum2
      have e1 : leN ((l.drop n).take 4) = sizeL (l.drop n) := rfl
      have e2 : leN (((l.drop n).drop 4).take 4) = saidL (l.drop n) := rfl
      simp only [e1] at hnum1
      simp only [e2] at hnum2
      have HNX : Hid (nextL (l.drop n) = if (l.drop n).length < 8 ∨ 200000 < sizeL (l.drop n) ∨ (l.drop n).length - 8 < sizeL (l.drop n) ∨ sum32L (((l.drop n).drop 8).take (sizeL (l.drop n))) ≠ saidL (l.drop n) then none else some (((l.drop n).drop 8).take (sizeL (l.drop n)))) := rfl
      have HDL : Hid ((l.drop n).length = l.length - n) := by show _ = _; simp
      generalize sizeL (l.drop n) = k at *
      generalize saidL (l.drop n) = m at *
      clear ht1 ht2 e1 e2 hD8
      go_upto_region 5 with (fail)
      generalize wr.alloc (Obj.cells #[.slice a l.length c, .int .i64 (n : Int), .int .i64 0] 43) = w1 at *
      generalize hbr : wr.heap.size = br at *
      have HBR := Lib.hid hbr
      clear hbr
      go_wp2_with fail
      refine (hnum1 br _ w1 hrf).mono ?_
      rintro e w2 ⟨rfl, hrf2, hU2⟩
      go_wp2_with fail
      refine (hnum2 br _ w2 hrf2).mono ?_
      rintro e w3 ⟨rfl, hrf3, hU3⟩
      have hU03 : Upd (fun _ => False) wr w3 := hUa.next (hU2.trans hU3) (fun i hi h => by have := HBR.out; omega)
      have hR3 := hR.upd hU03
      have hv3 := hvr.upd hU03 (fun _ _ h => h)
      have hz3 := hU03.size
      have hUB := hU.trans (hU03.mono (fun _ _ h => h.elim))
      clear hrf hrf2 hrf3 hUa hU2 hU3 hnum1 hnum2 hR hvr hU hU03
      have hki : (k : Int) < 4294967296 := by omega
      have hmi : (m : Int) < 4294967296 := by omega
      by_cases hA : 200000 < k
      · have hdA : decide (200000 < (k : Int)) = true := by simp; omega
        have hnx : nextL (l.drop n) = none := by have := HNX.out; rw [if_pos (.inr (.inl hA))] at this; exact this
        have HD := Lib.hid (hF.out.done hnx)
        clear hnx hF
        go_wp2_with fail
        go_ret2
        refine ⟨ar, cr, ts, ?_, ?_, ?_, ?_⟩
        · rw [HD.out]; rfl
        · rw [HD.out]
        · rw [HB.out]; exact hR3
        · exact (hUB).mono (fun i hi h => by have := HB.out; omega)
      have hdA : decide (200000 < (k : Int)) = false := by simp; omega
      by_cases hB' : l.length < n + 8 + k
      · have hdB : (l.length : Int) - (n : Int) - 8 < (k : Int) := by omega
        have hnx : nextL (l.drop n) = none := by have := HNX.out; rw [if_pos (.inr (.inr (.inl (by have := HDL.out; omega))))] at this; exact this
        have HD := Lib.hid (hF.out.done hnx)
        clear hnx hF
        go_wp2_with fail
        go_ret2
        refine ⟨ar, cr, ts, ?_, ?_, ?_, ?_⟩
        · rw [HD.out]; rfl
        · rw [HD.out]
        · rw [HB.out]; exact hR3
        · exact (hUB).mono (fun i hi h => by have := HB.out; omega)
      have hdB : decide ((l.length : Int) - (n : Int) - 8 < (k : Int)) = false := by rw [decide_eq_false_iff_not]; omega
      have hsl := slice_mid a c (n + 8) (n + 8 + k) l.length ((n : Int) + 8) ((n : Int) + 8 + (k : Int)) w3 (by omega) (by omega) (by omega) (by omega) hlc hcap hnil
      have hvq := hv3.part (n + 8) (n + 8 + k) c (by omega) (by omega) (Nat.le_refl _) (by omega)
      have hkk : n + 8 + k - (n + 8) = k := by omega
      rw [hkk] at hsl hvq
      simp only [Nat.mul_one] at hvq
      have hxl : (((l.drop n).drop 8).take k).length = k := by simp; omega
      have hq : ((bvs l).drop (n + 8)).take k = bvs (((l.drop n).drop 8).take k) := by simp [bvs, List.map_drop, List.map_take, List.drop_drop]
      rw [hq] at hvq
      generalize ((l.drop n).drop 8).take k = x at *
      have hbk : ∀ q, blk (if c = n + 8 then a else a.map (·.add ((n + 8) * 1))) = some q → blk a = some q := fun q h => blk_add h
      rw [Nat.mul_one] at hbk hsl
      generalize (if c = n + 8 then a else a.map (·.add (n + 8))) = a' at *
      rw [← hxl] at hvq
      have hsum := refSum32_any a' (c - (n + 8)) x w3 hvq (by omega) (fun q hq => by have := HLB.out q (hbk q hq); have := HB.out; have := HBR.out; omega)
      rw [hxl] at hsum
      have hs32 := sum32_lt x
      generalize sum32L x = sx at *
      have hsi : (sx : Int) < 4294967296 := by omega
      have HVQ := Lib.hid hvq
      have HXL := Lib.hid hxl
      clear hvq hq hkk hbk hxl hv3
      by_cases hC : sx = m
      · subst hC
        have hnx : nextL (l.drop n) = some x := by have := HNX.out; rw [if_neg (by have := HDL.out; omega)] at this; exact this
        have HM := Lib.hid (hF.out.more hnx)
        clear hnx hF
        go_wp2_with fail
        refine hsum.mono ?_
        rintro e w4 ⟨rfl, hU4⟩
        have hv4 := HVQ.out.upd hU4 (fun _ _ h => h)
        have hR4 := hR3.upd hU4
        have hz4 := hU4.size
        have hU04 := hUB.trans (hU4.mono (fun _ _ h => h.elim))
        have hsrc := hv4.src (P := Try.prog) (t := 22) Try.underlying22 (bvs_cells x)
        rw [HXL.out] at hsrc
        clear hsum hR3 hUB hU4 hv4
        go_wp2_with (at_builtin; refine wpList_app _ rfl (.const (.slice none 0 0)) (.tmp 50) 22 22 rfl 5 j0 (.int .u8 0) 1 1 Try.underlying22 HJU.out.1 HJU.out.2.1 HJU.out.2.2.1 HJU.out.2.2.2 rfl none 0 0 [] rfl (World.ownsRow_nil _ _ _ _) (.slice a' k (c - (n + 8))) k (bvs x) rfl hsrc ?_ ?_ ?_)
        · unfold maxLen; omega
        · omega
        intro a5 c5 w5 hown5 hg5 hat5 hnil5
        have hU5 := Upd.grown (S := fun _ => False) hg5 (fun k hk => by cases hk)
        try simp only [Nat.zero_add, List.nil_append] at hown5
        rw [← HXL.out] at hown5
        have hv5 := Vw.of_own hown5
        have hfr5 : ∀ g, blk a5 = some g → w4.heap.size ≤ g := fun g hg => by
          rcases hat5 with h | h
          · rw [h] at hg; cases hg
          · rw [h] at hg; cases hg; omega
        have hlt5 : ∀ g, blk a5 = some g → g < w5.heap.size := fun g hg => (hown5.lt g ((own_blk _ _ _).trans hg)).2
        have hR5 := hR4.upd hU5
        have hownR := hR5.own.alloc (Obj.cells #[cellT (a5, c5, x)] 22)
        have hnew : (w5.alloc (Obj.cells #[cellT (a5, c5, x)] 22)).heap[w5.heap.size]? = _ := heap_alloc_new w5 _
        have hsr : Src Try.prog 1 25 (.slice (some ⟨w5.heap.size, 0, none⟩) 1 1) 1 [cellT (a5, c5, x)] (w5.alloc (Obj.cells #[cellT (a5, c5, x)] 22)) :=
          Src.ofSlice _ Try.underlying25 _ 1 1 _ rfl (World.news_of_block hnew) (fun u hu => by simp at hu; subst hu; rfl)
        have HS := Lib.hid (And.intro hR4 (And.intro hU5 (And.intro hv5 (And.intro hfr5 hlt5))))
        unfold cellT at hownR hsr
        try simp only at hownR hsr
        rw [HXL.out] at hownR hsr
        clear hnew hR4 hR5 hv5 hfr5 hlt5 hown5 hsrc hat5 hnil5 hg5 hU5
        try simp only [Nat.zero_add]
        go_wp2_with (at_builtin; refine wpList_app _ rfl (.tmp 49) (.tmp 52) 25 25 rfl 22 i0 (.slice none 0 0) 1 24 Try.underlying25 HIU.out.1 HIU.out.2.1 HIU.out.2.2.1 HIU.out.2.2.2 rfl ar ts.length cr (ts.map cellT) rfl hownR (.slice (some ⟨w5.heap.size, 0, none⟩) 1 1) 1 _ rfl hsr ?_ ?_ ?_)
        · unfold maxLen; omega
        · omega
        intro a6 c6 w6 hown6 hg6 hat6 hnil6
        obtain ⟨hR4, hU5, hv5, hfr5, hlt5⟩ := HS.out
        have hcT : (.slice a5 k c5 : Value) = cellT (a5, c5, x) := by unfold cellT; rw [HXL.out]
        rw [hcT] at hown6 hg6
        obtain ⟨hR6, hU6⟩ := Recs.more (t := (a5, c5, x)) hR4 (by have := HB.out; have := HBR.out; omega) hU5 hv5 hfr5 hlt5 hown6 hg6 (by simpa using hat6)
        have hUw := hU04.trans hU6
        have HR6 := Lib.hid hR6
        clear hR4 hU5 hv5 hfr5 hlt5 hown6 hg6 hat6 hnil6 hownR hsr hR6 hcT
        go_wp2_with fail
        go_roundw
        case rel =>
          refine ⟨ts ++ [(a5, c5, x)], n + (8 + x.length), a6, c6, by have := HXL.out; omega, by simp; omega, by simp, by have := HXL.out; first | rfl | (rw [this]; go_num), ?_, HR6.out, hUw⟩
          have := HM.out
          show Far _ _ _
          simpa using this
        case measure => simp [intOf]; omega
      · have hne : ((sx : Int) != (m : Int)) = true := by simp; omega
        have hnx : nextL (l.drop n) = none := by have := HNX.out; rw [if_pos (.inr (.inr (.inr hC)))] at this; exact this
        have HD := Lib.hid (hF.out.done hnx)
        clear hnx hF
        go_wp2_with fail
        refine hsum.mono ?_
        rintro e w4 ⟨rfl, hU4⟩
        go_wp2_with fail
        go_ret2
        refine ⟨ar, cr, ts, ?_, ?_, ?_, ?_⟩
        · rw [HD.out]; rfl
        · rw [HD.out]
        · rw [HB.out]; exact hR3.upd hU4
        · exact (hUB.trans (hU4.mono (fun _ _ h => h.elim))).mono (fun i hi h => by have := HB.out; omega)

    · have hI : ¬ (8 : Int) ≤ (l.length : Int) - (n : Int) := by omega
      have hdI : decide ((8 : Int) ≤ (l.length : Int) - (n : Int)) = false := by rw [decide_eq_false_iff_not]; exact hI
      have hnx : nextL (l.drop n) = none := by unfold nextL; rw [if_pos (.inl (by simp; omega))]
      have HD := Lib.hid (hF.out.done hnx)
      clear hnx hF
      go_wp2_with fail
      go_ret2
      refine ⟨ar, cr, ts, ?_, ?_, ?_, ?_⟩
      · rw [HD.out]; rfl
      · rw [HD.out]
      · rw [HB.out]; exact hR
      · exact hU.mono (fun i hi h => by have := HB.out; omega)
end Go.Proofs.Yteefceainlfdfaa
