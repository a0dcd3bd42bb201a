
/- The records that bytes begin with: record.Scan. -/
import Derived.Test.YteefceainlfdfaaRec4
namespace Go.Proofs.Yteefceainlfdfaa
set_option linter.unusedSimpArgs false
set_option linter.unusedVariables false
open Go.ChangeShapes Go.WideShapes Go.ChangeAt Go.RowKit

def Scanned (w : World) (l : List UInt8) (e : Ending) (w' : World) : Prop :=
  ∃ ar cr, ∃ ts : List Tri, e = .returned (.tuple #[.slice ar ts.length cr, .int .i64 ((scanL l).2 : Int)]) ∧ ts.map (·.2.2) = (scanL l).1 ∧ Recs w.heap.size w' ar cr ts ∧ Upd (fun _ => False) w w'
theorem slice_from (a : Option Addr) (c n m : Nat) (w : World) (h : n ≤ m) (hc : m ≤ c) (hcap : c ≤ maxLen) (hn : a = none → c = 0) :
    (Instr.slice 22 (.slice a m c) (some (.int .i64 (n : Int))) none none).run Try.prog w = .ok (.slice (if c = n then a else a.map (·.add (n * 1))) (m - n) (c - n)) w := by
  unfold maxLen at hcap
  obtain ⟨i0, hi, hz0, hz1, hz2⟩ := info_parts infoU8
  by_cases e : c = n
  · subst e
    have : m = c := by omega
    subst this
    go_simp
  · rw [if_neg e, Nat.mul_one]
    go_simp
    try omega

set_option maxRecDepth 100000 in
set_option maxHeartbeats 4000000 in
theorem scan_any (a : Option Addr) (c : Nat) (l : List UInt8) (w : World) (hv : Vw w a l.length c 1 (bvs l)) (hl : l.length ≤ 1000000) (hlb : ∀ b, blk a = some b → b < w.heap.size) :
    Calls Try.prog 9 #[.slice a l.length c] w (Scanned w l) := by
  obtain ⟨i0, hi, hz0, hz1, hz2⟩ := info_parts infoBytes
  have HIU := Lib.hid (And.intro hi (And.intro hz0 (And.intro hz1 hz2)))
  clear hi hz0 hz1 hz2
  have HV := Lib.hid hv
  have hcap := hv.cap
  have hlc := hv.le
  have hnil := hv.nil
  have HLB := Lib.hid hlb
  clear hlb hv
  obtain ⟨B, hB⟩ : ∃ B, w.heap.size = B := ⟨_, rfl⟩
  have HB := Lib.hid hB
  clear hB
  go_enter Try.func9, Try.ntmps9
  go_wp2_with fail
  go_loopw [4, 5] (fun v i wr => ∃ (ts : List Tri) (n : Nat) (ar : Option Addr) (cr : Nat), n ≤ l.length ∧ ts.length ≤ n ∧ v = .slice ar ts.length cr ∧ i = .int .i64 (n : Int) ∧ Hid (Far l (ts.map (·.2.2)) n) ∧ Recs B wr ar cr ts ∧ Upd (fun i => B ≤ i) w wr) (fun _ i _ => l.length - (intOf i).toNat)
  case atStart => exact ⟨[], 0, none, 0, by omega, by simp, rfl, rfl, Far.start l, Recs.nil B w, Upd.refl _ _⟩
  case round =>
    obtain ⟨ts, n, ar, cr, hn, hts, rfl, rfl, hF, hR, hU⟩ := hrel
    have hzB := hU.size
    have hvr := HV.out.upd hU (fun k hk h => by have := HLB.out k hk; have := HB.out; omega)
    have hsl := slice_from a c n l.length wr hn hlc hcap hnil
    have hvp := hvr.post n hn
    have hd1 : (bvs l).drop (n * 1) = bvs (l.drop n) := by rw [Nat.mul_one]; simp [bvs, List.map_drop]
    have hd2 : l.length - n = (l.drop n).length := by simp
    rw [hd1] at hvp
    have hblk : ∀ k, blk (if c = n then a else a.map (·.add (n * 1))) = some k → blk a = some k := by
      intro k hk
      split at hk
      · exact hk
      · cases a with
        | none => cases hk
        | some x => simp only [blk, Option.map_some, Addr.add] at hk ⊢; split at hk <;> exact hk
    have hnx := next_any (if c = n then a else a.map (·.add (n * 1))) (c - n) (l.drop n) wr (by rw [← hd2]; exact hvp) (by simp; omega) (fun k hk => by have := HLB.out k (hblk k hk); have := HB.out; omega)
    rw [← hd2] at hnx
    generalize (if c = n then a else a.map (·.add (n * 1))) = a' at *
    have HBK := Lib.hid hblk
    clear hvp hd1 hd2 hvr hblk
    go_upto_region 3 with (fail)
    go_wp2_with fail
    refine hnx.mono ?_
    rintro e w1 ⟨hU1, hm⟩
    clear hnx hsl
    cases hx : nextL (l.drop n) with
    | none =>
      rw [hx] at hm
      subst hm
      have hdone := hF.out.done hx
      have HD := Lib.hid hdone
      clear hdone hF hx
      go_wp2_with fail
      go_ret2
      refine ⟨ar, cr, ts, ?_, ?_, ?_, ?_⟩
      · rw [HD.out]; rfl
      · rw [HD.out]
      · rw [HB.out]; exact hR.upd hU1
      · exact (hU.trans (hU1.mono (fun _ _ h => h.elim))).mono (fun i hi h => by have := HB.out; omega)
    | some x =>
      rw [hx] at hm
      obtain ⟨a2, c2, rfl, hv2, hb2⟩ := hm
      have hxl := (nextL_len hx).1
      simp only [List.length_drop] at hxl
      have hmore := hF.out.more hx
      have HM := Lib.hid hmore
      have hR1 := hR.upd hU1
      have hz1 := hU1.size
      clear hmore hF hx hR
      go_wp2_with fail
      refine (clone_any a2 c2 x w1 hv2 (by omega)).mono ?_
      rintro e w2 ⟨a3, c3, rfl, hown3, hU2, hfr3, hnil3⟩
      have hv3 := Vw.of_own hown3
      have hlt3 : ∀ g, blk a3 = some g → g < w2.heap.size := fun g hg => (hown3.lt g ((own_blk _ _ _).trans hg)).2
      have hR2 := hR1.upd hU2
      have hownR := hR2.own.alloc (Obj.cells #[cellT (a3, c3, x)] 22)
      have hnew : (w2.alloc (Obj.cells #[cellT (a3, c3, x)] 22)).heap[w2.heap.size]? = _ := heap_alloc_new w2 _
      have hsr : Src Try.prog 1 25 (.slice (some ⟨w2.heap.size, 0, none⟩) 1 1) 1 [cellT (a3, c3, x)] (w2.alloc (Obj.cells #[cellT (a3, c3, x)] 22)) :=
        Src.ofSlice _ Try.underlying25 _ 1 1 _ rfl (World.news_of_block hnew) (fun u hu => by simp at hu; subst hu; rfl)
      have HS := Lib.hid (And.intro hR1 (And.intro hU2 (And.intro hv3 (And.intro hfr3 hlt3))))
      unfold cellT at hownR hsr
      clear hnew hnil3 hR1 hR2 hv3 hfr3 hlt3 hown3 hv2 hb2
      have hxl1 : x.length ≤ 1000000 := by omega
      go_wp2_with (at_builtin; refine wpList_app _ rfl (.tmp 19) (.tmp 22) 25 25 rfl 22 i0 (.slice none 0 0) 1 24 Try.underlying25 HIU.out.1 HIU.out.2.1 HIU.out.2.2.1 HIU.out.2.2.2 rfl ar ts.length cr (ts.map cellT) rfl hownR (.slice (some ⟨w2.heap.size, 0, none⟩) 1 1) 1 _ rfl hsr ?_ ?_ ?_)
      · unfold maxLen; omega
      · omega
      intro a4 c4 w4 hown4 hg4 hat4 hnil4
      obtain ⟨hR1, hU2, hv3, hfr3, hlt3⟩ := HS.out
      obtain ⟨hR4, hU4⟩ := Recs.more (t := (a3, c3, x)) hR1 (by have := HB.out; omega) hU2 hv3 hfr3 hlt3 hown4 hg4 (by simpa using hat4)
      have hUw := (hU.trans (hU1.mono (fun _ _ h => h.elim))).trans hU4
      have HR4 := Lib.hid hR4
      clear hR1 hU2 hv3 hfr3 hlt3 hown4 hg4 hat4 hnil4 hownR hsr hR4
      go_wp2_with fail
      go_roundw
      case rel =>
        refine ⟨ts ++ [(a3, c3, x)], n + (8 + x.length), a4, c4, by omega, by simp; omega, by simp, by first | rfl | go_num, ?_, HR4.out, hUw⟩
        have := HM.out
        show Far _ _ _
        simpa using this
      case measure => simp [intOf]; omega
end Go.Proofs.Yteefceainlfdfaa
