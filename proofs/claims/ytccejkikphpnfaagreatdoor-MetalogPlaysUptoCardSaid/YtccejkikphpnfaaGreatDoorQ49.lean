
/- The log's Root. -/
import Derived.Test.YtccejkikphpnfaaGreatDoorQ48
namespace Go.Proofs.YtccejkikphpnfaaGreatDoor
set_option linter.unusedSimpArgs false
set_option linter.unusedVariables false
set_option maxRecDepth 100000
open Go.ChangeShapes Go.WideShapes Go.ChangeAt Go.RowKit
section
variable {S0 S1 : World → Prop} {c : Nat} {listed : Array Bool} {w : World}
theorem SB.ahead (h : listed.getD c false = false) (hs : S0 w) : SB S0 S1 c listed w := by
 unfold SB
 rw [if_neg (by rw [h]; decide)]
 exact hs
theorem SB.behind (h : listed.getD c false = true) (hs : S1 w) : SB S0 S1 c listed w := by
 unfold SB
 rw [if_pos h]
 exact hs
end
def OwnedR (w : World) (r : Rt) (X : Nat) (e : Ending) (w' : World) : Prop := ∃ q : Rt, e = .returned (.agg (rtA q)) ∧ rtC q = rtC r ∧ RtIn w' q ∧ RtBl (fun g => g ≠ X) q ∧ Upd (fun _ => False) w w'
set_option maxHeartbeats 8000000 in
theorem own_any (r : Rt) (w : World) (X : Nat) (hX : X < w.heap.size) (h : RtIn w r) (hbl : RtBl (fun g => g < w.heap.size ∧ g ≠ X) r) (h1 : r.ks.length ≤ 1000000000) (h2 : r.ms.length ≤ 1000000000) (h3 : r.ns.length ≤ 1000000000) (h4 : ∀ m ∈ r.ms, m.new.length ≤ 1000000000) :
  Calls Tryz.prog 73 #[.agg (rtA r)] w (OwnedR w r X) := by
 obtain ⟨p0, hp0⟩ : ∃ p0, p0 = r := ⟨_, rfl⟩
 have HP0 := Lib.hid hp0
 have HPW : Hid (RtIn w p0 ∧ RtBl (fun g => g < w.heap.size ∧ g ≠ X) p0) := Lib.hid (by rw [hp0]; exact ⟨h, hbl⟩)
 have HB : Hid (p0.ks.length ≤ 1000000000 ∧ p0.ms.length ≤ 1000000000 ∧ p0.ns.length ≤ 1000000000 ∧ (∀ m ∈ p0.ms, m.new.length ≤ 1000000000)) := Lib.hid (by rw [hp0]; exact ⟨h1, h2, h3, h4⟩)
 rw [show rtA r = rtA p0 from by rw [hp0]]
 rw [← hp0]
 have harg : rtA p0 = rtA r := by rw [hp0]
 rw [harg]
 clear hp0 h hbl h1 h2 h3 h4 harg
 obtain ⟨p, ca, cc, ks, ma, mc, ms, na, nc, ns, k⟩ := r
 unfold rtA
 have hU1 := (Upd.alloc (fun _ => False) w (.cells #[.int .i64 p, .slice ca ks.length cc, .slice ma ms.length mc, .slice na ns.length nc, .int .i64 k] 26)).trans (Upd.alloc (fun _ => False) (w.alloc (.cells #[.int .i64 p, .slice ca ks.length cc, .slice ma ms.length mc, .slice na ns.length nc, .int .i64 k] 26)) (.cells #[.int .i64 0, .slice none 0 0, .slice none 0 0, .slice none 0 0, .int .i64 0] 26))
 have hb0 := ((Upd.alloc (fun _ => False) (w.alloc (.cells #[.int .i64 p, .slice ca ks.length cc, .slice ma ms.length mc, .slice na ns.length nc, .int .i64 k] 26)) (.cells #[.int .i64 0, .slice none 0 0, .slice none 0 0, .slice none 0 0, .int .i64 0] 26)).block _ (lt_of_heap (heap_alloc_new w (.cells #[.int .i64 p, .slice ca ks.length cc, .slice ma ms.length mc, .slice na ns.length nc, .int .i64 k] 26))) (fun h => h)).trans (heap_alloc_new w (.cells #[.int .i64 p, .slice ca ks.length cc, .slice ma ms.length mc, .slice na ns.length nc, .int .i64 k] 26))
 have hb1 := heap_alloc_new (w.alloc (.cells #[.int .i64 p, .slice ca ks.length cc, .slice ma ms.length mc, .slice na ns.length nc, .int .i64 k] 26)) (.cells #[.int .i64 0, .slice none 0 0, .slice none 0 0, .slice none 0 0, .int .i64 0] 26)
 have hsz : ((w.alloc (.cells #[.int .i64 p, .slice ca ks.length cc, .slice ma ms.length mc, .slice na ns.length nc, .int .i64 k] 26)).alloc (.cells #[.int .i64 0, .slice none 0 0, .slice none 0 0, .slice none 0 0, .int .i64 0] 26)).heap.size = w.heap.size + 2 := by simp
 rw [show (w.alloc (.cells #[.int .i64 p, .slice ca ks.length cc, .slice ma ms.length mc, .slice na ns.length nc, .int .i64 k] 26)).heap.size = w.heap.size + 1 from by simp] at hb1
 have HX := Lib.hid (And.intro hb0 (And.intro hb1 (And.intro hU1 hsz)))
 clear hU1 hb0 hb1 hsz
 go_enter Tryz.func73, Tryz.ntmps73
 go_upto_region 1 with (fail)
 try rw [show (w.alloc (.cells #[.int .i64 p, .slice ca ks.length cc, .slice ma ms.length mc, .slice na ns.length nc, .int .i64 k] 26)).heap.size = w.heap.size + 1 from by simp]
 generalize (w.alloc (.cells #[.int .i64 p, .slice ca ks.length cc, .slice ma ms.length mc, .slice na ns.length nc, .int .i64 k] 26)).alloc (.cells #[.int .i64 0, .slice none 0 0, .slice none 0 0, .slice none 0 0, .int .i64 0] 26) = y1 at *
 obtain ⟨B3, hB3⟩ : ∃ B, B = w.heap.size := ⟨_, rfl⟩
 have HB3 := Lib.hid hB3
 rw [← hB3] at HX ⊢
 clear hB3
 have hy := HX.out.1
 have q1 : y1.drew.cell? ⟨B3, 1, none⟩ = some (.slice ca ks.length cc) := (cell_of_row y1 B3 1 _ _ _ hy).trans rfl
 have q2 : y1.drew.cell? ⟨B3, 2, none⟩ = some (.slice ma ms.length mc) := (cell_of_row y1 B3 2 _ _ _ hy).trans rfl
 have q3 : y1.drew.cell? ⟨B3, 3, none⟩ = some (.slice na ns.length nc) := (cell_of_row y1 B3 3 _ _ _ hy).trans rfl
 have hUd := Upd.drew (fun _ => False) y1
 have HPI : Hid (RtIn y1.drew p0) := Lib.hid (HPW.out.1.upd (HX.out.2.2.1.trans hUd))
 have HXd : Hid (y1.drew.heap[B3]? = some (.cells #[.int .i64 p, .slice ca ks.length cc, .slice ma ms.length mc, .slice na ns.length nc, .int .i64 k] 26) ∧ y1.drew.heap[B3 + 1]? = some (.cells #[.int .i64 0, .slice none 0 0, .slice none 0 0, .slice none 0 0, .int .i64 0] 26) ∧ Upd (fun _ => False) w y1.drew ∧ y1.drew.heap.size = B3 + 2) := Lib.hid ⟨HX.out.1, HX.out.2.1, HX.out.2.2.1.trans hUd, HX.out.2.2.2⟩
 clear hUd hy HX
 refine wp_region_bar [([0, 1, 3, 4, 6, 7], 2), ([9], 5), ([], 8), ([], 10), ([11], 12), ([13], 14)] [] 8 (fun w' => w'.cell? ⟨B3, 1, none⟩ = some (.slice ca ks.length cc) ∧ w'.cell? ⟨B3, 2, none⟩ = some (.slice ma ms.length mc) ∧ w'.cell? ⟨B3, 3, none⟩ = some (.slice na ns.length nc)) (fun _ => True) (by kernel_rfl) (by kernel_rfl) ⟨q1, q2, q3⟩ ?_
 generalize y1.drew = y2 at *
 refine bar_take (v := ?_) (fun _ => True) rfl (.inr (fun _ _ => trivial)) (.inr (fun _ _ => trivial)) rfl (fun w' hS => ?_) ?_
 rotate_left
 ·skip
  go_simp; try with_reducible rfl
 simp only [putL]
 refine bar_take (v := ?_) (fun w' => w'.cell? ⟨B3, 1, none⟩ = some (.slice ca ks.length cc) ∧ w'.cell? ⟨B3, 2, none⟩ = some (.slice ma ms.length mc) ∧ w'.cell? ⟨B3, 3, none⟩ = some (.slice na ns.length nc)) rfl (.inr (fun _ h => h)) (.inl (by kernel_rfl)) rfl (fun w' hS => ?_) ?_
 rotate_left
 ·skip
  go_simp; try with_reducible rfl
 simp only [putL]
 refine bar_take (v := ?_) (fun _ => True) rfl (.inr (fun _ _ => trivial)) (.inr (fun _ _ => trivial)) rfl (fun w' hS => ?_) ?_
 rotate_left
 ·skip
  go_simp; try with_reducible rfl
 simp only [putL]
 refine bar_take (v := ?_) (fun w' => w'.cell? ⟨B3, 1, none⟩ = some (.slice ca ks.length cc) ∧ w'.cell? ⟨B3, 2, none⟩ = some (.slice ma ms.length mc) ∧ w'.cell? ⟨B3, 3, none⟩ = some (.slice na ns.length nc)) rfl (.inr (fun _ h => h)) (.inl (by kernel_rfl)) rfl (fun w' hS => ?_) ?_
 rotate_left
 ·skip
  go_simp; try with_reducible rfl
 simp only [putL]
 refine bar_take (v := ?_) (fun _ => True) rfl (.inr (fun _ _ => trivial)) (.inr (fun _ _ => trivial)) rfl (fun w' hS => ?_) ?_
 rotate_left
 ·skip
  go_simp; try with_reducible rfl
 simp only [putL]
 refine bar_take (v := ?_) (fun w' => w'.cell? ⟨B3, 1, none⟩ = some (.slice ca ks.length cc) ∧ w'.cell? ⟨B3, 2, none⟩ = some (.slice ma ms.length mc) ∧ w'.cell? ⟨B3, 3, none⟩ = some (.slice na ns.length nc)) rfl (.inr (fun _ h => h)) (.inl (by kernel_rfl)) rfl (fun w' hS => ?_) ?_
 rotate_left
 ·skip
  go_simp; try with_reducible rfl
 simp only [putL]
 refine bar_act rfl (fun K2 hK2 => ?_)
 have hcs := cloneKC_any ca cc ks y2 (by have h := (HPI.out).cv; rw [HP0.out] at h; exact h) (by have h := HB.out.1; rw [HP0.out] at h; exact h)
 go_wp2_with fail
 refine hcs.mono ?_
 unfold ClonedK
 rintro e w2 ⟨a1, c1, rfl, hown1, hU1⟩
 have hS2 : (fun w' => w'.cell? ⟨B3, 1, none⟩ = some (.slice ca ks.length cc) ∧ w'.cell? ⟨B3, 2, none⟩ = some (.slice ma ms.length mc) ∧ w'.cell? ⟨B3, 3, none⟩ = some (.slice na ns.length nc)) w2 := ⟨(hU1.cell (World.block_lt_of_cell? _ _ q1) (fun h => h)).trans q1, (hU1.cell (World.block_lt_of_cell? _ _ q2) (fun h => h)).trans q2, (hU1.cell (World.block_lt_of_cell? _ _ q3) (fun h => h)).trans q3⟩
 have HO1 := Lib.hid (And.intro hown1 hU1)
 clear hcs hown1 hU1 q1 q2 q3
 go_wp2_with fail
 refine hK2.out _ _ (SB.ahead (by kernel_rfl) hS2) ?_
 refine bar_take (v := ?_) (fun _ => True) rfl (.inr (fun _ _ => trivial)) (.inr (fun _ _ => trivial)) rfl (fun w' hS => ?_) ?_
 rotate_left
 ·skip
  go_simp; try with_reducible rfl
 simp only [putL]
 refine bar_act rfl (fun K5 hK5 => ?_)
 have hcs := cloneM_any ma mc ms w2 (by have h := (HPI.out.upd HO1.out.2).mv; rw [HP0.out] at h; exact h) (by have h := HB.out.2.1; rw [HP0.out] at h; exact h)
 go_wp2_with fail
 refine hcs.mono ?_
 unfold ClonedM
 rintro e w3 ⟨a2, c2, rfl, hown2, hU2⟩
 have hS3 : (fun w' => w'.cell? ⟨B3, 1, none⟩ = some (.slice ca ks.length cc) ∧ w'.cell? ⟨B3, 2, none⟩ = some (.slice ma ms.length mc) ∧ w'.cell? ⟨B3, 3, none⟩ = some (.slice na ns.length nc)) w3 := ⟨(hU2.cell (World.block_lt_of_cell? _ _ hS2.1) (fun h => h)).trans hS2.1, (hU2.cell (World.block_lt_of_cell? _ _ hS2.2.1) (fun h => h)).trans hS2.2.1, (hU2.cell (World.block_lt_of_cell? _ _ hS2.2.2) (fun h => h)).trans hS2.2.2⟩
 have HO2 := Lib.hid (And.intro hown2 hU2)
 clear hcs hown2 hU2 hS2
 go_wp2_with fail
 refine hK5.out _ _ (SB.ahead (by kernel_rfl) hS3) ?_
 refine bar_act rfl (fun K8 hK8 => ?_)
 have hcs := cloneN_any na nc ns w3 (by have h := (HPI.out.upd (HO1.out.2.trans HO2.out.2)).nv; rw [HP0.out] at h; exact h) (by have h := HB.out.2.2.1; rw [HP0.out] at h; exact h)
 go_wp2_with fail
 refine hcs.mono ?_
 unfold ClonedN
 rintro e w4 ⟨a3, c3, rfl, hown3, hU3⟩
 have HO3 := Lib.hid (And.intro hown3 hU3)
 clear hcs hown3 hU3 hS3
 go_wp2_with fail
 refine hK8.out _ _ (SB.behind (by kernel_rfl) trivial) ?_
 have hww := HO1.out.2.trans (HO2.out.2.trans HO3.out.2)
 have hrow4 := (hww.block _ (lt_of_heap HXd.out.1) (fun h => h)).trans HXd.out.1
 have hres4 := (hww.block _ (lt_of_heap HXd.out.2.1) (fun h => h)).trans HXd.out.2.1
 have f1 : w4.frozen? ⟨B3, 1, none⟩ = false := free_row hrow4
 have g1 : w4.cell? ⟨B3, 1, none⟩ = some (.slice ca ks.length cc) := by rw [cell_of_row _ _ _ _ _ _ hrow4]; rfl
 have HR4 := Lib.hid (And.intro hrow4 hres4)
 clear hww hrow4 hres4
 refine bar_act rfl (fun K10 hK10 => ?_)
 go_wp2_with fail
 refine hK10.out _ _ (SB.behind (by kernel_rfl) trivial) ?_
 have hrow := setCell_heap 1 (.slice a1 ks.length c1) HR4.out.1
 have HU10 := Lib.hid (Upd.setCell (S := fun k => k = B3) w4 (p := ⟨B3, 1, none⟩) rfl (.slice a1 ks.length c1))
 have HR10 := Lib.hid hrow
 clear f1 g1 hrow
 generalize w4.setCell ⟨B3, 1, none⟩ (.slice a1 ks.length c1) = w5 at *
 have f2 : w5.frozen? ⟨B3, 2, none⟩ = false := free_row HR10.out
 have g2 : w5.cell? ⟨B3, 2, none⟩ = some (.slice ma ms.length mc) := by rw [cell_of_row _ _ _ _ _ _ HR10.out]; rfl
 refine bar_take (v := ?_) (fun _ => True) rfl (.inr (fun _ _ => trivial)) (.inr (fun _ _ => trivial)) rfl (fun w' hS => ?_) ?_
 rotate_left
 ·skip
  go_simp; try with_reducible rfl
 simp only [putL]
 refine bar_act rfl (fun K12 hK12 => ?_)
 go_wp2_with fail
 refine hK12.out _ _ (SB.behind (by kernel_rfl) trivial) ?_
 have hrow := setCell_heap 2 (.slice a2 ms.length c2) HR10.out
 have HU12 := Lib.hid (Upd.setCell (S := fun k => k = B3) w5 (p := ⟨B3, 2, none⟩) rfl (.slice a2 ms.length c2))
 have HR12 := Lib.hid hrow
 clear f2 g2 hrow
 generalize w5.setCell ⟨B3, 2, none⟩ (.slice a2 ms.length c2) = w6 at *
 have f3 : w6.frozen? ⟨B3, 3, none⟩ = false := free_row HR12.out
 have g3 : w6.cell? ⟨B3, 3, none⟩ = some (.slice na ns.length nc) := by rw [cell_of_row _ _ _ _ _ _ HR12.out]; rfl
 refine bar_take (v := ?_) (fun _ => True) rfl (.inr (fun _ _ => trivial)) (.inr (fun _ _ => trivial)) rfl (fun w' hS => ?_) ?_
 rotate_left
 ·skip
  go_simp; try with_reducible rfl
 simp only [putL]
 refine bar_act rfl (fun K14 hK14 => ?_)
 go_wp2_with fail
 refine hK14.out _ _ (SB.behind (by kernel_rfl) trivial) ?_
 have hrow := setCell_heap 3 (.slice a3 ns.length c3) HR12.out
 have HU14 := Lib.hid (Upd.setCell (S := fun k => k = B3) w6 (p := ⟨B3, 3, none⟩) rfl (.slice a3 ns.length c3))
 have HR14 := Lib.hid hrow
 clear f3 g3 hrow
 generalize w6.setCell ⟨B3, 3, none⟩ (.slice a3 ns.length c3) = w7 at *
 refine bar_end ?_
 have hUS : Upd (fun k => k = B3) w4 w7 := (HU10.out.trans HU12.out).trans HU14.out
 have hUw : Upd (fun _ => False) w w4 := HXd.out.2.2.1.trans (HO1.out.2.trans (HO2.out.2.trans HO3.out.2))
 have hww : Upd (fun _ => False) w w7 := hUw.next hUS (fun i hi e => by have := HB3.out; omega)
 have hP : Po w p0 X ms a1 c1 a2 c2 a3 c3 w7 := by
  have l1 := HO1.out.1.lt
  have l2 := HO2.out.1.lt
  have l3 := HO3.out.1.lt
  have z := HXd.out.2.2.2
  have z2 := HO1.out.2.size
  have z3 := HO2.out.2.size
  have hb := HB3.out
  have e1 : p0.ks = ks := by rw [HP0.out]
  have e2 : p0.ms = ms := by rw [HP0.out]
  have e3 : p0.ns = ns := by rw [HP0.out]
  have own1 : w7.ownsRow y2.heap.size 52 32 (.slice a1 ks.length c1) ks.length (ks.flatMap kyV) := ownsRow_upd (ownsRow_upd HO1.out.1 (HO2.out.2.trans HO3.out.2) (fun _ _ h => h)) hUS (fun k hk e => by have := l1 k hk; omega)
  have own2 : w7.ownsRow w2.heap.size 77 2 (.slice a2 ms.length c2) ms.length (ms.flatMap mkV) := ownsRow_upd (ownsRow_upd HO2.out.1 HO3.out.2 (fun _ _ h => h)) hUS (fun k hk e => by have := l2 k hk; omega)
  have own3 : w7.ownsRow w3.heap.size 92 2 (.slice a3 ns.length c3) ns.length (ns.flatMap nmV) := ownsRow_upd HO3.out.1 hUS (fun k hk e => by have := l3 k hk; omega)
  have own2' : w7.ownsRow (w.heap.size + 2) 77 2 (.slice a2 ms.length c2) ms.length (ms.flatMap mkV) := own_base (own0 own2) (fun k hk => by have := l2 k ((own_blk _ _ _).trans hk); omega)
  refine ⟨?_, ?_, by rw [e2]; exact own2', by rw [e1]; exact Vw.of_own (own0 own1), by rw [e3]; exact Vw.of_own (own0 own3), fun k hk => ⟨?_, fun hk4 => ?_⟩, fun k hk => ⟨?_, fun hk4 => ?_⟩, fun m hm => ⟨(HPW.out.1.upd hww).me m (by rw [e2]; exact hm), fun k hk => ⟨fun hk4 => ?_, ?_⟩⟩, by rw [e2], hww⟩
  ·rw [← hb, HR14.out, HP0.out]; rfl
  ·have h4 := HR4.out.2
   rw [← hb]
   exact (hUS.block _ (lt_of_heap h4) (by omega)).trans h4
  ·have := l1 k ((own_blk _ _ _).trans hk); omega
  ·have h1 := l1 k ((own_blk _ _ _).trans hk); have h2 := l2 k ((own_blk _ _ _).trans hk4); omega
  ·have := l3 k ((own_blk _ _ _).trans hk); omega
  ·have h1 := l3 k ((own_blk _ _ _).trans hk); have h2 := l2 k ((own_blk _ _ _).trans hk4); omega
  ·have h1 := HPW.out.2.e m (by rw [e2]; exact hm) k hk
   have h2 := l2 k ((own_blk _ _ _).trans hk4)
   omega
  ·have h1 := HPW.out.2.e m (by rw [e2]; exact hm) k hk
   exact ⟨by omega, h1.2⟩
 have HP := Lib.hid hP
 have HFS : Hid (∀ m ∈ ms, m.new.length ≤ 1000000000) := Lib.hid (by have h := HB.out.2.2.2; rw [HP0.out] at h; exact h)
 have HSS : Hid (p0.ms = ms) := Lib.hid (by rw [HP0.out])
 have hSn : ms.length ≤ 1000000000 := by have h := HB.out.2.1; rw [HP0.out] at h; exact h
 have q4 : w7.cell? ⟨B3, 2, none⟩ = some (.slice a2 ms.length c2) := by rw [HB3.out, cell_of_row _ _ _ _ _ _ hP.row, ← HSS.out]; rfl
 clear hP hww hUS hUw HXd HO1 HO2 HO3 HU10 HU12 HU14 HR4 HR10 HR12 HR14 HPI HB
 go_wp2_with fail
 go_loopw [19] (fun i wr => ∃ (j : Nat) (xs : List Mk), j ≤ ms.length ∧ i = .int .i64 (j : Int) ∧ Hid (Po w p0 X xs a1 c1 a2 c2 a3 c3 wr)) (fun i _ => ms.length - (intOf i).toNat)
 case atStart => exact ⟨0, ms, Nat.zero_le _, rfl, HP⟩
 case round =>
  obtain ⟨j, xs, hj, rfl, HQ⟩ := hrel
  clear q4 HP
  have hr3 := HQ.out.row
  rw [← HB3.out] at hr3
  have q4 : wr.cell? ⟨B3, 2, none⟩ = some (.slice a2 ms.length c2) := by rw [cell_of_row _ _ _ _ _ _ hr3, ← HSS.out]; rfl
  clear hr3
  by_cases hlt : j < ms.length
  ·have hI : (j : Int) < (ms.length : Int) := by omega
   have hI0 : (0 : Int) ≤ (j : Int) := by omega
   have hjx : j < xs.length := by have := HQ.out.len; rw [HSS.out] at this; omega
   obtain ⟨g, rfl⟩ : ∃ g, a2 = some ⟨g, 0, none⟩ := by
    rcases HQ.out.own.2 with ⟨_, h0⟩ | ⟨g, cap, cur, he, _⟩
    ·rw [HSS.out] at h0; omega
    ·simp only [Value.slice.injEq] at he
     exact ⟨g, he.1⟩
   obtain ⟨x, hx⟩ : ∃ x, xs[j]? = some x := ⟨_, List.getElem?_eq_getElem hjx⟩
   have hxj : xs[j] = x := by rw [List.getElem?_eq_getElem hjx] at hx; exact Option.some.inj hx
   have hel : (xs.flatMap mkV)[j * 2 + 1]? = some (.slice x.a x.new.length x.c) := by rw [← hxj]; exact (mk_get xs j 1 hjx (by decide)).trans rfl
   have qe : wr.cell? ⟨g, j * 2 + 1, none⟩ = some (.slice x.a x.new.length x.c) := (HQ.out.own.cellAt (j * 2 + 1) (by rw [HSS.out]; omega)).trans hel
   have hfl : x.new.length ≤ 1000000000 := by
    have h1 := congrArg (fun z => z[j]?) HQ.out.same
    rw [HSS.out] at h1
    simp only [List.getElem?_map, hx, List.getElem?_eq_getElem hlt, Option.map_some, Option.some.injEq, mkC, Prod.mk.injEq] at h1
    rw [h1.2]
    exact HFS.out _ (List.getElem_mem hlt)
   have hin := (HQ.out.ins x (List.mem_of_getElem? hx)).1
   have hcl := cloneIC_any x.a x.c x.new wr.drew (hin.upd (Upd.drew _ _)) hfl
   have hstep := fun (w2 : World) (hU : Upd (fun _ => False) wr w2) => (HQ.out.other hU).step j x hx
   have HST := Lib.hid hstep
   have hgl := HQ.out.own.lt g rfl
   have HGL := Lib.hid hgl
   clear hel hfl hin hstep hgl hx hxj hjx
   go_upto_region 5 with (fail)
   have hS0 : wr.drew.cell? ⟨B3, 2, none⟩ = some (.slice (some ⟨g, 0, none⟩) ms.length c2) ∧ wr.drew.cell? ⟨g, j * 2 + 1, none⟩ = some (.slice x.a x.new.length x.c) := ⟨q4, qe⟩
   refine wp_region_plan_last [([0, 1, 2, 3, 4, 5, 6, 7, 8], 9), ([10, 11], 12)] [] (fun w' => w'.cell? ⟨B3, 2, none⟩ = some (.slice (some ⟨g, 0, none⟩) ms.length c2) ∧ w'.cell? ⟨g, j * 2 + 1, none⟩ = some (.slice x.a x.new.length x.c)) (by kernel_rfl) (by kernel_rfl) hS0 ?_
   iterate 9
    refine plan_take (v := ?_) rfl rfl (fun w' hS => ?_) ?_
    rotate_left
    ·skip
     go_simp; try with_reducible rfl
    simp only [putL]
   refine plan_act rfl (fun K9 hK9 => ?_)
   go_wp2_with fail
   refine hcl.mono ?_
   unfold ClonedI
   rintro e w2 ⟨a', c', rfl, hown, hU⟩
   have hS2 : w2.cell? ⟨B3, 2, none⟩ = some (.slice (some ⟨g, 0, none⟩) ms.length c2) ∧ w2.cell? ⟨g, j * 2 + 1, none⟩ = some (.slice x.a x.new.length x.c) :=
    ⟨(hU.cell (World.block_lt_of_cell? _ _ hS0.1) (fun h => h)).trans hS0.1, (hU.cell (World.block_lt_of_cell? _ _ hS0.2) (fun h => h)).trans hS0.2⟩
   have hlt' := hown.lt
   have HN := Lib.hid (HST.out w2 ((Upd.drew _ _).trans hU) a' c' (Vw.of_own (own0 hown)) (fun k hk => by have h1 := hlt' k ((own_blk _ _ _).trans hk); have h2 := HGL.out.2; have h3 : wr.drew.heap.size = wr.heap.size := rfl; have h4 := lt_of_heap HQ.out.res; have h5 := HQ.out.upd.size; exact ⟨by omega, by omega, by omega⟩))
   have fe : w2.frozen? ⟨g, j * 2 + 1, none⟩ = false := (HQ.out.other ((Upd.drew _ _).trans hU)).own.frozenAt (j * 2 + 1)
   clear hown hU hlt' hcl
   go_wp2_with fail
   refine hK9.out _ _ (.inr hS2) ?_
   iterate 2
    refine plan_take (v := ?_) rfl rfl (fun w' hS => ?_) ?_
    rotate_left
    ·skip
     go_simp; try with_reducible rfl
    simp only [putL]
   refine plan_act rfl (fun K12 hK12 => ?_)
   have qe2 := hS2.2
   go_wp2_with fail
   refine hK12.out _ _ (.inl rfl) ?_
   refine plan_end ?_
   go_wp2_with fail
   go_roundw
   case rel => exact ⟨j + 1, _, by omega, by first | rfl | go_num, HN⟩
   case measure => simp [intOf]; omega
  ·obtain rfl : j = ms.length := by omega
   have hlen := HQ.out.len
   have hrow := HQ.out.row
   have hres := HQ.out.res
   rw [← HB3.out] at hres
   have hB := HB3.out
   have hsame := HQ.out.same
   have hq : ownR p0 a1 c1 a2 c2 a3 c3 = rtA ⟨p0.p, a1, c1, p0.ks, a2, c2, xs, a3, c3, p0.ns, p0.k⟩ := by unfold ownR rtA; rw [hlen]
   rw [hq, ← HB3.out] at hrow
   have HRO := Lib.hid (And.intro hrow (And.intro hres hsame))
   have HA5 := Lib.hid (And.intro (show (Tryz.prog.info? 26).map (·.size) = some (rtA ⟨p0.p, a1, c1, p0.ks, a2, c2, xs, a3, c3, p0.ns, p0.k⟩).size from by rw [infoRoot]; rfl) (rtA_one ⟨p0.p, a1, c1, p0.ks, a2, c2, xs, a3, c3, p0.ns, p0.k⟩))
   have hUr := Upd.setRow (S := fun k => k = B3 + 1) wr (b := B3 + 1) rfl (rtA ⟨p0.p, a1, c1, p0.ks, a2, c2, xs, a3, c3, p0.ns, p0.k⟩)
   have HZ : Hid (RtIn (wr.setRow (B3 + 1) (rtA ⟨p0.p, a1, c1, p0.ks, a2, c2, xs, a3, c3, p0.ns, p0.k⟩)) ⟨p0.p, a1, c1, p0.ks, a2, c2, xs, a3, c3, p0.ns, p0.k⟩ ∧ Upd (fun _ => False) w (wr.setRow (B3 + 1) (rtA ⟨p0.p, a1, c1, p0.ks, a2, c2, xs, a3, c3, p0.ns, p0.k⟩))) := by
    have ho := HQ.out.own
    rw [← hlen] at ho
    have hl := ho.lt
    refine Lib.hid ⟨⟨HQ.out.ky.upd hUr (fun k hk e => by have := (HQ.out.a1b k hk).1; omega), (Vw.of_own (own0 ho)).upd hUr (fun k hk e => by have := hl k ((own_blk _ _ _).trans hk); omega), fun m hm => Vw.upd (HQ.out.ins m hm).1 hUr (fun k hk e => ((HQ.out.ins m hm).2 k hk).2.1 (by rw [← hB]; exact e)), HQ.out.nm.upd hUr (fun k hk e => by have := (HQ.out.a3b k hk).1; omega), HPW.out.1.nl⟩, HQ.out.upd.next hUr (fun i hi e => by omega)⟩
   have hone : Hid ((rtA rt0).size = 5) := Lib.hid rfl
   have hs7 : Hid ((rtA ⟨p0.p, a1, c1, p0.ks, a2, c2, xs, a3, c3, p0.ns, p0.k⟩).size = 5) := Lib.hid rfl
   have HBL : Hid (RtBl (fun g => g ≠ X) ⟨p0.p, a1, c1, p0.ks, a2, c2, xs, a3, c3, p0.ns, p0.k⟩) := Lib.hid ⟨fun g hg => by have := (HQ.out.a1b g hg).1; omega, fun g hg => by have := HQ.out.own.lt g ((own_blk _ _ _).trans hg); omega, fun m hm g hg => ((HQ.out.ins m hm).2 g hg).2.2, fun g hg => by have := (HQ.out.a3b g hg).1; omega⟩
   clear hlen hq hrow hsame hUr hB
   generalize hAA : rtA ⟨p0.p, a1, c1, p0.ks, a2, c2, xs, a3, c3, p0.ns, p0.k⟩ = AA at *
   have HAA := Lib.hid hAA
   clear hAA
   have hvar := HRO.out.1
   go_wp2_with first
    | refine wpList_load_row rfl 26 (.tmp 1) rfl B3 AA 26 (0, 0) _ rfl hvar Tryz.underlying26 rfl HA5.out.1 ?_
    | refine wpList_store_row rfl 26 (.tmp 2) (.tmp 35) rfl (B3 + 1) AA _ 26 rfl rfl hres HA5.out.1 (by rw [hs7.out]; rfl) HA5.out.2 ?_
   have hrw := setRow_heap _ _ _ AA _ _ hres
   exact ret_row rfl (B3 + 1) AA 26 (0, 0) _ rfl hrw Tryz.underlying26 rfl HA5.out.1 rfl ⟨⟨p0.p, a1, c1, p0.ks, a2, c2, xs, a3, c3, p0.ns, p0.k⟩, by rw [HAA.out], by unfold rtC; rw [HRO.out.2.2], HZ.out.1, HBL.out, HZ.out.2⟩
theorem ret_rtB {fn : Func} {R : Ending → World → Prop} {a : Act} {w : World} {p u : Tmp} (h : fn.results = #[.cell p 26, .tmp u]) (b : Nat) (X : Array Value) (v : Bool)
  (hp : a.tmps.getD p undef = .pointer (some ⟨b, 0, none⟩)) (hg : w.heap[b]? = some (.cells X 26)) (hi : (Tryz.prog.info? 26).map (·.size) = some X.size) (hv : a.tmps.getD u undef = .bool v) (hdf : a.defers = []) (hR : R (.returned (.tuple #[.agg X, .bool v])) w) : bodyPost Tryz.prog fn R .ret a w := by
 refine bodyPost_ret (v := .tuple #[.agg X, .bool v]) ?_ hdf hR
 have := run_loadVar_row (P := Tryz.prog) w b 26 26 X (0, 0) _ hg Tryz.underlying26 (by simp) hi
 rw [results_cell_tmp h, hp, hv]
 simp [Result.andThen, asAddr, this]
def RootTold (w : World) (rr : List Rt) (i : Int) (e : Ending) (w' : World) : Prop :=
 ∃ q : Rt, RtIn w' q ∧ Upd (fun _ => False) w w' ∧ ((0 ≤ i ∧ ∃ r, rr[i.toNat]? = some r ∧ rtC q = rtC r ∧ e = .returned (.tuple #[.agg (rtA q), .bool true])) ∨ ((i < 0 ∨ (rr.length : Int) ≤ i) ∧ e = .returned (.tuple #[.agg (rtA q), .bool false])))
theorem rt_range (rr : List Rt) (i : Nat) (x : Rt) (hx : rr[i]? = some x) (j : Nat) (u : Value) (hu : (rtV x)[j]? = some u) : (rr.flatMap rtV)[i * 5 + j]? = some u := by
 have hj : j < 5 := (List.getElem?_eq_some_iff.1 hu).1
 rw [flatMap_get rtV 5 rtV_len rr i j hj, hx]
 exact hu
theorem rt0_in (w : World) : RtIn w rt0 := ⟨Vw.nl _ _, Vw.nl _ _, (fun m hm => by cases hm), Vw.nl _ _, (fun x hx => by cases hx)⟩
set_option maxHeartbeats 4000000 in
theorem mRootX [Inhabited RbT] (g : Lx) (A : LA) (lb : Nat) (i : Int) (w : World) (h : LogX w lb g A) (hl : g.rr.length ≤ 2000) (hr : ∀ r ∈ g.rr, r.ks.length ≤ 1000000000 ∧ r.ms.length ≤ 1000000000 ∧ r.ns.length ≤ 1000000000 ∧ ∀ m ∈ r.ms, m.new.length ≤ 1000000000) :
  Calls Tryz.prog 38 #[.pointer (some ⟨lb, 0, none⟩), .int .i64 i] w (RootTold w g.rr i) := by
 have hU0 := Upd.alloc (fun _ => False) w (.cells #[.int .i64 0, .slice none 0 0, .slice none 0 0, .slice none 0 0, .int .i64 0] 26)
 have hb0 := heap_alloc_new w (.cells #[.int .i64 0, .slice none 0 0, .slice none 0 0, .slice none 0 0, .int .i64 0] 26)
 have h0 := h.other hU0
 have q := h0.c0
 have HH := Lib.hid (And.intro hU0 (And.intro hb0 (And.intro h0 (And.intro h hr))))
 have hr5 : rtA rt0 = #[.int .i64 0, .slice none 0 0, .slice none 0 0, .slice none 0 0, .int .i64 0] := rfl
 have HR5 := Lib.hid hr5
 have HINF : Hid ((Tryz.prog.info? 26).map (·.size) = some 5) := Lib.hid infoRoot
 have HRET : Hid (∀ (y0 y1 : World), Upd (fun _ => False) w y0 → y1 = y0.setRow w.heap.size (rtA rt0) → Upd (fun _ => False) w y1) := Lib.hid (fun y0 y1 hU e => by rw [e]; exact hU.next (Upd.setRow (S := fun k => k = w.heap.size) y0 rfl (rtA rt0)) (fun i hi e => by omega))
 clear hU0 h h0 hr hb0 hr5
 by_cases hi0 : i < 0
 ·have hz := Lib.hid hi0
  go_enter Tryz.func38, Tryz.ntmps38
  go_wp2_with fail
  refine ret_rtB rfl w.heap.size #[.int .i64 0, .slice none 0 0, .slice none 0 0, .slice none 0 0, .int .i64 0] false rfl ?_ HINF.out rfl rfl ?_
  ·exact HH.out.2.1
  ·exact ⟨rt0, rt0_in _, HH.out.1, .inr ⟨.inl hz.out, by rw [HR5.out]⟩⟩
 ·by_cases hi1 : (g.rr.length : Int) ≤ i
  ·have hz := Lib.hid hi1
   have hn : decide ((g.rr.length : Int) ≤ i) = true := decide_eq_true hi1
   go_enter Tryz.func38, Tryz.ntmps38
   go_wp2_with fail
   refine ret_rtB rfl w.heap.size #[.int .i64 0, .slice none 0 0, .slice none 0 0, .slice none 0 0, .int .i64 0] false rfl ?_ HINF.out rfl rfl ?_
   ·exact HH.out.2.1
   ·exact ⟨rt0, rt0_in _, HH.out.1, .inr ⟨.inr hz.out, by rw [HR5.out]⟩⟩
  ·obtain ⟨j, rfl⟩ : ∃ j : Nat, i = (j : Int) := ⟨i.toNat, by omega⟩
   have hj : j < g.rr.length := by omega
   obtain ⟨x, hx⟩ : ∃ x, g.rr[j]? = some x := ⟨_, List.getElem?_eq_getElem hj⟩
   have hxm := List.mem_of_getElem? hx
   obtain ⟨b, o, hb, hcell⟩ := HH.out.2.2.1.rr.at (by omega) (by decide)
   have hx1 := (HH.out.2.2.1.re x hxm).1
   have hx2 : RtBl (fun g => g < (w.alloc (.cells #[.int .i64 0, .slice none 0 0, .slice none 0 0, .slice none 0 0, .int .i64 0] 26)).heap.size ∧ g ≠ w.heap.size) x := (HH.out.2.2.2.1.re x hxm).2.mono (fun q hq => ⟨by have := hq.2.1; simp; omega, by have := hq.2.1; omega⟩)
   have hx3 := HH.out.2.2.2.2 x hxm
   have how := own_any x (w.alloc (.cells #[.int .i64 0, .slice none 0 0, .slice none 0 0, .slice none 0 0, .int .i64 0] 26)) w.heap.size (by simp) hx1 hx2 hx3.1 hx3.2.1 hx3.2.2.1 hx3.2.2.2
   have hrg : (w.alloc (.cells #[.int .i64 0, .slice none 0 0, .slice none 0 0, .slice none 0 0, .int .i64 0] 26)).rangeAt b (o + j * 5) (rtV x) := fun k u hu => by
    have := hcell (j * 5 + k) u (rt_range g.rr j x hx k u hu)
    rw [← Nat.add_assoc] at this
    exact this
   have HX := Lib.hid (And.intro hx hxm)
   have hI0 : (0 : Int) ≤ (j : Int) := by omega
   have hI1 : (j : Int) < (g.rr.length : Int) := by omega
   have hn : decide ((g.rr.length : Int) ≤ (j : Int)) = false := decide_eq_false hi1
   have hRA : Hid ((rtV x).toArray = rtA x) := Lib.hid (by unfold rtV; simp)
   have hRS : Hid ((rtV x).length = 5) := Lib.hid rfl
   rw [hb] at q
   clear hx hxm hx1 hx2 hx3 hcell hb hi0 hi1 hj
   generalize rtV x = XV at *
   go_enter Tryz.func38, Tryz.ntmps38
   go_wp2_with (refine wpList_load_mid rfl 26 (.tmp 27) rfl b (o + j * 5) rfl XV _ hrg Tryz.underlying26 rfl (by rw [HINF.out, hRS.out]) ?_)
   rw [hRA.out]
   refine Calls.mono how ?_
   unfold OwnedR
   rintro e w2 ⟨qr, rfl, hq, hin, hnb, hU⟩
   have hb2 := (hU.block _ (lt_of_heap HH.out.2.1) (fun h => h)).trans HH.out.2.1
   have hUs := Upd.setRow (S := fun k => k = w.heap.size) w2 rfl (rtA qr)
   have HQ := Lib.hid (And.intro hq (And.intro hin (And.intro hU hUs)))
   have hone := rtA_one qr
   have hs5 : (rtA qr).size = 5 := rfl
   have HX2 := Lib.hid (And.intro hone hs5)
   have HRT : Hid (RtIn (w2.setRow w.heap.size (rtA qr)) qr ∧ Upd (fun _ => False) w (w2.setRow w.heap.size (rtA qr))) := Lib.hid ⟨hin.updS hnb hUs, (HH.out.1.trans hU).next hUs (fun i hi e => by omega)⟩
   clear hq hin hnb hU hUs how q hrg hone hs5
   generalize hAA : rtA qr = AA at *
   have HAA := Lib.hid hAA
   clear hAA
   go_wp2_with (refine wpList_store_row rfl 26 (.tmp 4) (.tmp 29) rfl w.heap.size AA _ 26 rfl rfl hb2 (by rw [HINF.out, HX2.out.2]) (by rw [HX2.out.2]; rfl) HX2.out.1 ?_)
   refine ret_rtB rfl w.heap.size AA true rfl (setRow_heap _ _ _ AA _ _ hb2) (by rw [HINF.out, HX2.out.2]) rfl rfl ?_
   exact ⟨qr, HRT.out.1, HRT.out.2, .inl ⟨hI0, x, by rw [Int.toNat_natCast]; exact HX.out.1, HQ.out.1, by rw [HAA.out]⟩⟩
end Go.Proofs.YtccejkikphpnfaaGreatDoor
