
/- The walk of RecordTells. -/
import Derived.Test.YteefceainlfdfaaRec8
namespace Go.Proofs.Yteefceainlfdfaa
set_option linter.unusedSimpArgs false
set_option linter.unusedVariables false
open Go.ChangeShapes Go.WideShapes Go.ChangeAt Go.RowKit

theorem Recs.rows {B : Nat} {w : World} {a : Option Addr} {c : Nat} {ts : List Tri} (h : Recs B w a c ts) : Recs 0 w a c ts :=
  ⟨h.own, fun _ _ => Nat.zero_le _, fun t ht => ⟨(h.each t ht).1, fun k hk => ⟨Nat.zero_le _, ((h.each t ht).2 k hk).2⟩⟩⟩
set_option maxRecDepth 100000 in
set_option maxHeartbeats 4000000 in
theorem RecordTells_walk (w : World) (ba : Option Addr) (bc : Nat) (b : List UInt8) (hb : Vw w ba b.length bc 1 (bvs b)) (hbb : ∀ k, blk ba = some k → k < w.heap.size)
    (xa : Option Addr) (xc : Nat) (x : List UInt8) (hx : Vw w xa x.length xc 1 (bvs x)) (hxb : ∀ k, blk xa = some k → k < w.heap.size) :
    Calls Try.prog 3 #[.slice ba b.length bc, .slice xa x.length xc] w fun e w' => e = .returned (.bool true) ∧ Below w.heap.size w w' := by
  go_enter Try.func3, Try.ntmps3
  by_cases h1 : 1000 < b.length
  · have hd : decide (1000 < (b.length : Int)) = true := by simp; omega
    go_wp2_with fail
    refine (awake04_any w).mono ?_
    rintro e w3 ⟨rfl, hU⟩
    go_wp2_with fail
    go_ret
    exact ⟨rfl, hU.clean⟩
  have hd1 : decide (1000 < (b.length : Int)) = false := by simp; omega
  by_cases h2 : 2000 < x.length
  · have hd : decide (2000 < (x.length : Int)) = true := by simp; omega
    go_wp2_with fail
    refine (awake04_any w).mono ?_
    rintro e w3 ⟨rfl, hU⟩
    go_wp2_with fail
    go_ret
    exact ⟨rfl, hU.clean⟩
  have hd2 : decide (2000 < (x.length : Int)) = false := by simp; omega
  go_wp2_with fail
  refine (ownB_any xa xc x 71 w hx (by omega)).mono ?_
  rintro e w1 ⟨g, rfl, hown1, hU1, hg⟩
  have hg1 : g < w1.heap.size := (hown1.lt g (by simp [own_blk, blk])).2
  have hvin : Vw w1 (some ⟨g, 0, none⟩) x.length (x.length + 3) 1 (bvs x) := by
    have := (Vw.of_own hown1).pre x.length (by omega)
    simpa [bvs] using this
  have hb1 := hb.upd hU1 (fun _ _ h => h)
  have hx1 := hx.upd hU1 (fun _ _ h => h)
  have hsz1 := hU1.size
  have HO1 := Lib.hid hown1
  have HBB := Lib.hid hbb
  have HXB := Lib.hid hxb
  clear hown1 hb hx hbb hxb hg
  go_wp2_with fail
  refine (scan_any (some ⟨g, 0, none⟩) (x.length + 3) x w1 hvin (by omega) (fun k hk => by cases hk; exact hg1)).mono ?_
  rintro e w2 ⟨ar, cr, ts, rfl, hts, hR2, hU2⟩
  have hU02 := hU1.trans hU2
  have HO2 := Lib.hid (ownsRow_upd HO1.out hU2 (fun _ _ h => h))
  have hb2 := hb1.upd hU2 (fun _ _ h => h)
  have hx2 := hx1.upd hU2 (fun _ _ h => h)
  have hsz2 := hU2.size
  have HR2 := Lib.hid hR2.rows
  have HTS := Lib.hid hts
  clear hvin hb1 hx1 hU1 hU2 HO1 hR2 hts
  go_wp2_with fail
  refine (refScan_any xa xc x w2 hx2 (by omega) (fun k hk => by have := HXB.out k hk; omega)).mono ?_
  rintro e w3 ⟨ar2, cr2, ts2, rfl, hts2, hR3, hU3⟩
  have hU03 := hU02.trans hU3
  have HO3 := Lib.hid (ownsRow_upd HO2.out hU3 (fun _ _ h => h))
  have hb3 := hb2.upd hU3 (fun _ _ h => h)
  have hx3 := hx2.upd hU3 (fun _ _ h => h)
  have hsz3 := hU3.size
  have HR3 := Lib.hid (HR2.out.upd hU3)
  have HQ3 := Lib.hid hR3.rows
  have HTS2 := Lib.hid hts2
  clear hb2 hx2 hU02 hU3 HO2 hR3 hts2 HR2
  go_wp2_with fail
  refine (awake04_any w3).mono ?_
  rintro e w4 ⟨rfl, hU4⟩
  have hU04 := hU03.trans hU4
  have HO4 := Lib.hid (ownsRow_upd HO3.out hU4 (fun _ _ h => h))
  have hb4 := hb3.upd hU4 (fun _ _ h => h)
  have hx4 := hx3.upd hU4 (fun _ _ h => h)
  have hsz4 := hU4.size
  have HR4 := Lib.hid (HR3.out.upd hU4)
  have HQ4 := Lib.hid (HQ3.out.upd hU4)
  clear hb3 hx3 hU03 hU4 HO3 HR3 HQ3
  go_wp2_with fail
  refine (recSum_any ba bc b w4 hb4 (by omega) (fun k hk => by have := HBB.out k hk; omega)).mono ?_
  rintro e w5 ⟨rfl, hU5⟩
  have hb5 := hb4.upd hU5 (fun _ _ h => h)
  have hsz5 := hU5.size
  go_wp2_with fail
  refine (refSum32_any ba bc b w5 hb5 (by omega) (fun k hk => by have := HBB.out k hk; omega)).mono ?_
  rintro e w6 ⟨rfl, hU6⟩
  have hb6 := hb5.upd hU6 (fun _ _ h => h)
  have hsz6 := hU6.size
  have hU46 := hU5.trans hU6
  clear hb4 hb5 hU5 hU6
  go_wp2_with fail
  refine (frame_any ba bc b w6 hb6 (by omega) (fun k hk => by have := HBB.out k hk; omega)).mono ?_
  rintro e w7 ⟨a7, c7, rfl, hown7, hU7, hfr7, hnil7⟩
  have hb7 := hb6.upd hU7 (fun _ _ h => h)
  have hsz7 := hU7.size
  have hv7 := Vw.of_own hown7
  have hU47 := hU46.trans hU7
  clear hb6 hU46 hU7 hown7 hfr7 hnil7
  go_wp2_with fail
  refine (refFrame_any ba bc b w7 hb7 (by omega) (fun k hk => by have := HBB.out k hk; omega)).mono ?_
  rintro e w8 ⟨a8, c8, rfl, hown8, hU8, hfr8, hnil8⟩
  have hv8 := Vw.of_own hown8
  have hv78 := hv7.upd hU8 (fun _ _ h => h)
  have hU48 := hU47.trans hU8
  clear hb7 hU47 hU8 hown8 hfr8 hnil8 hv7
  go_wp2_with fail
  refine (sBytes_any a7 a8 c7 c8 (frameL b) (frameL b) w8 hv78 hv8).mono ?_
  rintro e w8' ⟨rfl, rfl⟩
  have HR8 := Lib.hid (HR4.out.upd hU48)
  have HQ8 := Lib.hid (HQ4.out.upd hU48)
  have HO8 := Lib.hid (ownsRow_upd HO4.out hU48 (fun _ _ h => h))
  have hx8 := hx4.upd hU48 (fun _ _ h => h)
  have hU08 := hU04.trans hU48
  have hff : (frameL b == frameL b) = true := by simp
  rw [hff]
  clear hv78 hv8 hU48 hU04 hx4 hff
  go_wp2_with fail
  refine (sameBB_any 0 0 ar ar2 cr cr2 ts ts2 w8 HR8.out HQ8.out (by rw [HTS.out, HTS2.out])).mono ?_
  rintro e w9 ⟨rfl, hU9⟩
  have hx9 := hx8.upd hU9 (fun _ _ h => h)
  have hO9 := ownsRow_upd HO8.out hU9 (fun _ _ h => h)
  have hU09 := hU08.trans hU9
  clear hx8 hU08 hU9
  go_wp2_with fail
  refine (keptB_any g xa xc x 71 w9 (by omega) hO9 hx9).mono ?_
  rintro e w10 ⟨rfl, hU10⟩
  go_wp2_with fail
  go_ret
  exact ⟨rfl, (hU09.trans hU10).clean⟩
end Go.Proofs.Yteefceainlfdfaa
