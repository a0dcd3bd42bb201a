
/- What MetalogPlays computes. -/
import Derived.Test.YtccejkikphpnfaaGreatDoorQ50
namespace Go.Proofs.YtccejkikphpnfaaGreatDoor
set_option linter.unusedSimpArgs false
set_option linter.unusedVariables false
set_option maxRecDepth 100000
open Go.ChangeShapes Go.WideShapes Go.ChangeAt Go.RowKit
/-- What stands at loop's head. -/
structure At40 (W : World) (rb lb j : Nat) (wr : World) : Prop where
 ex : ∃ P gm Am gr Ar m, Two W rb lb P gm Am gr Ar m wr ∧ MSI m ∧ MSJ m ∧ 0 ≤ m.n ∧ m.n ≤ (j : Int)
theorem g0_msi : MSI g0.ms := ⟨by decide, by decide, by decide, by decide, by decide, (fun i r h => by simp [g0, Lx.ms] at h), (fun d h => by simp [g0, Lx.ms] at h), by decide, .inl rfl, (fun r h => by simp [g0, Lx.ms] at h)⟩
theorem g0_msj : MSJ g0.ms := ⟨rfl, fun i h => by simp [g0, Lx.ms] at h⟩
theorem pend_small {y : Wt} (h : wtC y = wc0 ∨ waitBC (wtC y) = true) : y.ss.length ≤ 1000000000 ∧ y.cs.length ≤ 1000000000 ∧ (∀ m ∈ y.ss, m.fs.length ≤ 1000000000) := by
 rcases h with h | h
 ·have h1 : y.ss.map stC = [] := congrArg WC.ss h
  have h2 : y.cs = [] := congrArg WC.cs h
  have h3 : y.ss = [] := List.map_eq_nil_iff.1 h1
  rw [h2, h3]
  exact ⟨by simp, by simp, fun m hm => by cases hm⟩
 ·exact fs_100 h
theorem first_eq {m : MS} {gr : RX} (ht : Twin m gr) (hi : MSI m) (hj : MSJ m) (v : Int) : firstV m.fs v = firstR gr.rr v := by
 have hrl : m.rr.length = gr.rr.length := by rw [ht.rr, List.length_map]
 have hfl := hi.fs
 unfold firstV firstR
 by_cases h : 0 ≤ v ∧ v < (gr.rr.length : Int)
 ·rw [if_pos (by omega), if_pos h]
  have h1 := hj.fs v.toNat (by omega)
  rw [List.getD_eq_getElem?_getD, h1, Option.getD_some]
  unfold FSum
  rw [ht.rr, ← List.map_take, flat_rtC]
 ·rw [if_neg (by omega), if_neg h]
theorem root_small {r : Rt} (h : rootBC (rtC r) = true) : r.ks.length ≤ 1000000000 ∧ r.ms.length ≤ 1000000000 ∧ r.ns.length ≤ 1000000000 ∧ ∀ m ∈ r.ms, m.new.length ≤ 1000000000 := by
 unfold rootBC markersBC marksB rtC at h
 simp only [Bool.and_eq_true, decide_eq_true_eq, Bool.not_eq_true', List.any_eq_false, List.length_map] at h
 obtain ⟨_, h1, ⟨h2, h3⟩, ⟨_, h4⟩, _⟩ := h
 refine ⟨by omega, by omega, by omega, fun m hm => ?_⟩
 have := h3 (mkC m) (List.mem_map.2 ⟨m, hm, rfl⟩)
 unfold badMC mkC allB at this
 simp only [Bool.or_eq_true, Bool.not_eq_true', not_or, Bool.not_eq_false, Bool.and_eq_true, decide_eq_true_eq] at this
 omega
def PlaysEnd (W : World) (e : Ending) (w' : World) : Prop := e = .returned (.bool true) ∧ Upd (fun _ => False) W w'
set_option maxHeartbeats 8000000 in
theorem plays_walk (W : World) (a : Option Addr) (c : Nat) (ops : List Opx) (hv : Vw W a ops.length c 17 (ops.flatMap opV)) (ho : ∀ o ∈ ops, OpIn W o ∧ (waitG o.p).length ≤ 17000000) :
  Calls Tryz.prog 7 #[.slice a ops.length c] W (PlaysEnd W) := by
 have hcap := hv.cap
 have hlc := hv.le
 unfold maxLen at hcap
 have HV := Lib.hid (And.intro hv ho)
 have hnew := mNew_any W
 clear hv ho
 go_enter Tryz.func7, Tryz.ntmps7
 go_wp2_with fail
 refine hnew.mono ?_
 rintro e w1 ⟨lb, rfl, hlog, hU1, hlb⟩
 have hrn := rNew_any w1
 clear hnew
 go_wp2_with fail
 refine hrn.mono ?_
 rintro e w2 ⟨rfl, hrow, hU2⟩
 have hT := Two.start hlog hU1 hlb hrow hU2
 have HT0 := Lib.hid hT
 have haw := awake21_any w2
 obtain ⟨rb, hrb⟩ : ∃ r, r = w1.heap.size := ⟨_, rfl⟩
 rw [← hrb] at HT0 ⊢
 clear hrn hlog hU1 hlb hrow hU2 hT hrb
 go_wp2_with fail
 refine haw.mono ?_
 rintro e w3 ⟨rfl, hU3⟩
 have HA0 : Hid (At40 W rb lb 0 w3) := Lib.hid ⟨⟨_, _, _, _, _, _, HT0.out.other hU3, g0_msi, g0_msj, by decide, by decide⟩⟩
 clear haw HT0 hU3
 go_upto_block 0 with (fail)
 go_cut [3] (fun p wx => ∃ lb j, p = .pointer (some ⟨lb, 0, none⟩) ∧ Hid (At40 W rb lb j wx ∧ j ≤ 40))
 case first =>
  go_wp2_with fail
  go_loopw [3, 5] (fun p i wr => ∃ (j lb : Nat), j ≤ ops.length ∧ j ≤ 40 ∧ p = .pointer (some ⟨lb, 0, none⟩) ∧ i = .int .i64 (j : Int) ∧ Hid (At40 W rb lb j wr)) (fun _ i _ => ops.length - (intOf i).toNat)
  case atStart => exact ⟨0, lb, Nat.zero_le _, by omega, rfl, rfl, HA0⟩
  case round =>
   clear HA0
   obtain ⟨j, lb, hjl, hj40, rfl, rfl, HA⟩ := hrel
   by_cases hgo : j < ops.length
   case neg =>
    obtain rfl : j = ops.length := by omega
    clear hgo
    go_wp2_with fail
    go_meet
    case rel => exact ⟨lb, ops.length, rfl, Lib.hid ⟨HA.out, hj40⟩⟩
   case pos =>
   have hI1 : (j : Int) < (ops.length : Int) := by omega
   by_cases hg4 : j < 40
   case neg =>
    obtain rfl : j = 40 := by omega
    clear hg4
    go_wp2_with fail
    go_meet
    case rel => exact ⟨lb, 40, rfl, Lib.hid ⟨HA.out, hj40⟩⟩
   case pos =>
   have hI2 : (j : Int) < 40 := by omega
   have hI3 : (0 : Int) ≤ (j : Int) := by omega
   obtain ⟨⟨P, gm, Am, gr, Ar, m, hT, hmi, hmj, hn0, hnj⟩⟩ := HA.out
   obtain ⟨x, hx⟩ : ∃ x, ops[j]? = some x := ⟨_, List.getElem?_eq_getElem hgo⟩
   have hxm := HV.out.2 x (List.mem_of_getElem? hx)
   obtain ⟨b, oo, hb, hcell⟩ := (HV.out.1.upd hT.upd (fun _ _ h => h)).at (by omega) (by decide)
   have hrg : wr.rangeAt b (oo + j * 17) (opV x) := fun k u hu => by
    have := hcell (j * 17 + k) u (op_range ops j x hx k u hu)
    rw [← Nat.add_assoc] at this
    exact this
   subst hb
   have hzr := heap_alloc_new wr (.cells #[.int .i64 0, .bool false, .int .i64 0, .slice none 0 0, .slice none 0 0, .slice none 0 0, .int .i64 0, .int .i64 0, .bool false, .bool false, .bool false, .int .i64 0, .int .i64 0, .slice none 0 0, .int .i64 0, .slice none 0 0, .slice none 0 0] 63)
   have hU1 : Upd (fun _ => False) wr ((wr.alloc (.cells #[.int .i64 0, .bool false, .int .i64 0, .slice none 0 0, .slice none 0 0, .slice none 0 0, .int .i64 0, .int .i64 0, .bool false, .bool false, .bool false, .int .i64 0, .int .i64 0, .slice none 0 0, .int .i64 0, .slice none 0 0, .slice none 0 0] 63)).setRow wr.heap.size (opA x)) := (Upd.alloc (fun _ => False) wr (.cells #[.int .i64 0, .bool false, .int .i64 0, .slice none 0 0, .slice none 0 0, .slice none 0 0, .int .i64 0, .int .i64 0, .bool false, .bool false, .bool false, .int .i64 0, .int .i64 0, .slice none 0 0, .int .i64 0, .slice none 0 0, .slice none 0 0] 63)).next (Upd.setRow (S := fun k => k = wr.heap.size) _ rfl (opA x)) (fun i hi e => by omega)
   have hrow := setRow_heap _ _ _ (opA x) _ _ hzr
   have hT1 := hT.other hU1
   have hin := hxm.1.upd hT1.upd
   have hfw := few21_any x.r x.p _ hin.r hin.p
   have e0 : (opA x)[0]? = some (.int .i64 x.kind) := rfl
   have e16 : (opA x)[16]? = some (.slice x.ba x.b.length x.bc) := rfl
   have hrr := opA_root x
   have hrw := opA_wait x
   have h17 : (opA x).size = 17 := rfl
   have hone := opA_one x
   have hXV : (opV x).toArray = opA x := by unfold opV; simp
   have hXL : (opV x).length = 17 := rfl
   have hsR : (Tryz.prog.info? 26).map (·.size) = some (rtA x.r).toList.length := by rw [infoRoot]; rfl
   have hsW : (Tryz.prog.info? 30).map (·.size) = some (wtA x.p).toList.length := by rw [infoPd7]; rfl
   have hlR : (rtA x.r).toList.toArray = rtA x.r := by simp
   have hlW : (wtA x.p).toList.toArray = wtA x.p := by simp
   have hrc := fun (g : RX) (A : RA) (w : World) (ho : OpIn w x) (hr : RefX w rb lb g A) => record_any x g A rb lb w ho hr hxm.2
   have HO := Lib.hid (And.intro e0 (And.intro e16 (And.intro hrr (And.intro hrw (And.intro h17 (And.intro hone (And.intro hXV hXL)))))))
   have HSS := Lib.hid (And.intro hsR (And.intro hsW (And.intro hlR hlW)))
   have HRC := Lib.hid (And.intro hrc (And.intro hin (fun q hq (hne : x.b ≠ []) => hxm.1.b.in_heap hne q hq)))
   have HS := Lib.hid (And.intro hT1 (And.intro hmi (And.intro hmj (And.intro hn0 (And.intro hnj hU1)))))
   clear e0 e16 hrr hrw h17 hone hXV hXL hsR hsW hlR hlW hrc hin hxm hT hT1 hmi hmj hn0 hnj hU1 hcell hx HA
   generalize (wtA x.p).toList = WL at *
   generalize (rtA x.r).toList = RL at *
   generalize wtA x.p = WA at *
   generalize rtA x.r = RA0 at *
   generalize opV x = XV at *
   generalize opA x = AA at *
   have hxa := HO.out.2.2.2.2.2.2.1
   subst hxa
   go_upto_region 7 with (fail)
   go_upto_region 8 with first
    | refine wpList_store_row rfl 63 (.tmp 6) (.tmp 35) rfl wr.heap.size XV.toArray _ 63 rfl rfl hzr (by rw [infoOp17, HO.out.2.2.2.2.1]) (by rw [HO.out.2.2.2.2.1]; rfl) HO.out.2.2.2.2.2.1 ?_
    | refine wpList_load_mid rfl 63 (.tmp 34) rfl b (oo + j * 17) rfl XV _ hrg Tryz.underlying63 rfl (by rw [infoOp17, HO.out.2.2.2.2.2.2.2]) ?_
   clear hI1 hI2 hI3 hrg
   obtain ⟨BO, hBO⟩ : ∃ B, B = wr.heap.size := ⟨_, rfl⟩
   rw [← hBO] at HS HRC hrow hfw ⊢
   clear hzr
   have HBO := Lib.hid hBO
   clear hBO
   generalize (wr.alloc (.cells #[.int .i64 0, .bool false, .int .i64 0, .slice none 0 0, .slice none 0 0, .slice none 0 0, .int .i64 0, .int .i64 0, .bool false, .bool false, .bool false, .int .i64 0, .int .i64 0, .slice none 0 0, .int .i64 0, .slice none 0 0, .slice none 0 0] 63)).setRow BO XV.toArray = y1 at *
   have r2 : y1.rangeAt BO 2 RL := fun k u hu => (cell_of_row y1 BO (2 + k) _ _ _ hrow).trans (HO.out.2.2.1 k u hu)
   have r9 : y1.rangeAt BO 9 WL := fun k u hu => (cell_of_row y1 BO (9 + k) _ _ _ hrow).trans (HO.out.2.2.2.1 k u hu)
   rw [← HSS.out.2.2.1, ← HSS.out.2.2.2] at hfw
   go_wp2_with first
    | refine wpList_load_mid rfl 26 (.tmp 36) rfl BO 2 rfl RL _ r2 Tryz.underlying26 rfl HSS.out.1 ?_
    | refine wpList_load_mid rfl 30 (.tmp 38) rfl BO 9 rfl WL _ r9 Tryz.underlying30 rfl HSS.out.2.1 ?_
   refine hfw.mono ?_
   unfold Told
   rintro e y2 ⟨bf, rfl, hU2⟩
   have hrow2 := (hU2.block _ (lt_of_heap hrow) (fun h => h)).trans hrow
   have q16 : y2.cell? ⟨BO, 16, none⟩ = some (.slice x.ba x.b.length x.bc) := (cell_of_row y2 BO 16 _ _ _ hrow2).trans HO.out.2.1
   have q0 : y2.cell? ⟨BO, 0, none⟩ = some (.int .i64 x.kind) := (cell_of_row y2 BO 0 _ _ _ hrow2).trans HO.out.1
   have HS2 := Lib.hid (And.intro (HS.out.1.other hU2) hrow2)
   have HU2 := Lib.hid hU2
   clear r2 r9 hfw hU2 hrow hrow2
   cases bf with
   | false =>
    go_wp2_with fail
    go_ret
    exact ⟨rfl, HS2.out.1.upd⟩
   | true =>
   by_cases h500 : 500 < x.b.length
   case pos =>
    have hI : decide ((500 : Int) < (x.b.length : Int)) = true := decide_eq_true (by omega)
    clear h500
    go_wp2_with fail
    go_ret
    exact ⟨rfl, HS2.out.1.upd⟩
   case neg =>
   have hI : decide ((500 : Int) < (x.b.length : Int)) = false := decide_eq_false (by omega)
   go_upto_region 10 with (fail)
   clear q16 hI
   by_cases hk5 : x.kind = 5
   case pos =>
    rw [hk5] at q0
    have hfk := (letI : Inhabited RbT := ⟨⟨P⟩⟩; mForkX gm Am lb y2 HS2.out.1.log)
    unfold Forked at hfk
    clear hk5
    go_wp2_with fail
    refine hfk.mono ?_
    rintro e y3 ⟨rfl, hrow3, hU3⟩
    have hU4 := Upd.alloc (fun _ => False) y3 (.cells #[.int .u8 4] 5)
    have hrow4 := (hU4.block _ (lt_of_heap hrow3) (fun h => h)).trans hrow3
    have hv4 : Vw (y3.alloc (.cells #[.int .u8 4] 5)) (some ⟨y3.heap.size, 0, none⟩) ([4] : List UInt8).length 1 1 (bvs [4]) := vw_one (X := #[.int .u8 4]) (heap_alloc_new y3 _)
    have hn4 : gm.n ≤ 100000 := by
     have h1 := HS.out.2.2.2.2.1
     have h2 : gm.n = m.n := by rw [← HS2.out.1.ms]; rfl
     omega
    have had := (letI : Inhabited RbT := ⟨⟨P⟩⟩; mAdd_gen gm Am lb (some ⟨y3.heap.size, 0, none⟩) 1 [4] _ (LogX.other HS2.out.1.log (hU3.trans hU4)) (by rw [HS2.out.1.ms]; exact HS.out.2.1) hn4 hv4 (by decide))
    unfold Added at had
    have HF4 := Lib.hid (And.intro hrow4 (hU3.trans hU4))
    clear hfk hrow3 hU3 hU4 hrow4 hv4 hn4
    go_wp2_with fail
    refine had.mono ?_
    rintro e y5 ⟨rfl, gx, Ax, _, _, hU5⟩
    have hTF := HS2.out.1.fork HF4.out.2 HF4.out.1 hU5
    have HN : Hid (At40 W rb y2.heap.size (j + 1) y5) := Lib.hid ⟨⟨P, gm, Am, gr, Ar, m, hTF, HS.out.2.1, HS.out.2.2.1, HS.out.2.2.2.1, by have := HS.out.2.2.2.2.1; omega⟩⟩
    clear had hU5 hTF
    go_wp2_with fail
    go_roundw
    case rel => exact ⟨j + 1, y2.heap.size, by omega, by omega, rfl, by first | rfl | go_num, HN⟩
    case measure => simp [intOf] <;> omega
   case neg =>
    have hb5 : (x.kind == 5) = false := by simp [hk5]
    have htw := HS2.out.1.twin
    have hb1 := HS.out.2.1.t0
    have hb2 := HS.out.2.1.t1
    have hb3 := HS.out.2.1.dl
    have hrl : m.rr.length = gr.rr.length := by rw [htw.rr, List.length_map]
    have hrec := HRC.out.1 gr Ar y2 (HRC.out.2.1.upd HU2.out) HS2.out.1.ref (by omega) (by have := htw.top; omega) (by have := htw.top; omega) (by have h1 := HS.out.2.2.2.2.1; have h2 := htw.ds; rw [← h2]; omega)
    clear htw hb1 hb2 hb3 hrl
    have hrow2 := HS2.out.2
    go_upto_region 16 with (fail)
    clear hb5 q0
    go_wp2_with (refine wpList_load_row rfl 63 (.tmp 6) rfl BO XV.toArray 63 (0, 0) _ rfl hrow2 Tryz.underlying63 rfl (by rw [infoOp17, HO.out.2.2.2.2.1]) ?_)
    refine hrec.mono ?_
    unfold Recd
    rintro e y3 ⟨L, ab, cb, rfl, hvb, hLl, hbb, hU3⟩
    have how := ownB_any ab cb L 71 y3 hvb (by omega)
    rw [show (((71 : UInt8).toNat : Nat) : Int) = 71 from rfl] at how
    unfold OwnedB at how
    have HL3 := Lib.hid (And.intro hvb (And.intro hbb hU3))
    clear hrec hvb hbb hU3 hrow2
    go_wp2_with fail
    refine how.mono ?_
    rintro e y4 ⟨gi, rfl, howi, hU4, hgi⟩
    have hTd : Two W rb lb P gm Am gr Ar m y4.drew := HS2.out.1.other ((HL3.out.2.2.trans hU4).trans (Upd.drew _ _))
    have hod : y4.drew.ownsRow 0 5 1 (.slice (some ⟨gi, 0, none⟩) (L.length + 3) (L.length + 3)) (L.length + 3) (bvs (L ++ [71, 71, 71])) := ownsRow_upd howi (Upd.drew (fun _ => False) y4) (fun _ _ h => h)
    have hvi : Vw y4.drew (some ⟨gi, 0, none⟩) L.length (L.length + 3) 1 (bvs L) := by
     have := (Vw.of_own hod).pre L.length (by omega)
     simpa [bvs] using this
    have hlt2 : lb < y2.heap.size := (letI : Inhabited RbT := ⟨⟨P⟩⟩; LogX.lt HS2.out.1.log)
    have hz3 := HL3.out.2.2.size
    have hWl := HS2.out.1.wl
    have hWr := HS2.out.1.wr
    have hrl2 := HS2.out.1.ref.lt
    have hWs := HS2.out.1.upd.size
    have hab : L ≠ [] → ∀ q, blk ab = some q → q < W.heap.size ∨ (y2.heap.size ≤ q ∧ q < y3.heap.size) := fun hne q hq => (HL3.out.2.1 q hq).elim (fun h => .inl (HRC.out.2.2 q h.1 (by rw [← h.2]; exact hne))) (fun h => .inr h)
    have hz4 := hU4.size
    have HQ := Lib.hid (And.intro hlt2 (And.intro hz3 (And.intro hWl (And.intro hWr (And.intro hrl2 (And.intro hWs (And.intro hab (And.intro hgi hz4))))))))
    have hvbd : Vw y4.drew ab L.length cb 1 (bvs L) := HL3.out.1.upd (hU4.trans (Upd.drew _ _)) (fun _ _ h => h)
    have hn4 : gm.n ≤ 100000 := by
     have h1 := HS.out.2.2.2.2.1
     have h2 : gm.n = m.n := by rw [← HS2.out.1.ms]; rfl
     omega
    have had := (letI : Inhabited RbT := ⟨⟨P⟩⟩; mAdd_gen gm Am lb (some ⟨gi, 0, none⟩) (L.length + 3) L _ hTd.log (by rw [HS2.out.1.ms]; exact HS.out.2.1) hn4 hvi hLl)
    unfold Added at had
    rw [HS2.out.1.ms] at had
    have hsi := HS.out.2.1.step L
    have hsj := HS.out.2.2.1.step HS.out.2.1 L
    have hsn := m.step_n L
    have HD := Lib.hid (And.intro hTd (And.intro hod hvbd))
    clear how howi hU4 hgi hTd hod hvi hlt2 hz3 hWl hWr hrl2 hWs hab hz4 hvbd hn4
    go_upto_region 18 with (fail)
    refine wp_region_split [([0, 1, 3, 4], 2)] [] 5 [([6, 7, 8, 9], 10), ([11, 12, 13, 14, 16, 17, 18, 19], 15), ([20, 21, 22, 23, 25], 24), ([], 26), ([], 27), ([28, 29, 30, 31, 33, 34, 35, 36], 32), ([], 37), ([38, 39, 40, 41, 43, 44, 45, 46], 42), ([], 47), ([48, 49, 50, 51, 53, 54, 55, 56], 52)] [57, 58] (by kernel_rfl) (by kernel_rfl) ?_
    have HZ5 : Hid (y4.heap.size ≤ y4.drew.heap.size) := Lib.hid (Nat.le_refl _)
    generalize y4.drew = y5 at *
    iterate 4
     refine spl_take (v := ?_) rfl (by kernel_rfl) (by decide) rfl (fun w' hS => ?_) ?_
     rotate_left
     ·skip
      go_simp; try with_reducible rfl
     simp only [putL]
    refine spl_act (by decide) rfl (fun K2 hK2 => ?_)
    go_wp2_with fail
    refine had.mono ?_
    rintro e y6 ⟨rfl, gm', Am', hms', hlog', hU6⟩
    have hrf6 := HD.out.1.ref.log hU6
    have hz6 := hU6.size
    have hvb6 : Vw y6 ab L.length cb 1 (bvs L) := HD.out.2.2.updL hU6 (fun hne q hq e => by
     have h1 := HQ.out.2.2.2.2.2.2.1 hne q hq
     have h2 := HQ.out
     omega)
    have hz5 := HD.out.1.upd.size
    have hbl6 : L ≠ [] → ∀ q, blk ab = some q → q < y6.heap.size := fun hne q hq => by
     have h1 := HQ.out.2.2.2.2.2.2.1 hne q hq
     have h2 := HQ.out
     have h3 := HZ5.out
     omega
    have hra := rAdd_gen m gr Ar rb lb ab cb L y6 hrf6 HD.out.1.twin HD.out.1.n HS.out.2.1 HS.out.2.2.1 HS.out.2.2.2.1 (by have := HS.out.2.2.2.2.1; omega) hvb6 hLl hbl6
    unfold RAdded at hra
    clear had
    go_wp2_with fail
    refine hK2.out _ _ ?_
    refine spl_bar rfl (fun K5 hK5 => ?_)
    go_wp2_with fail
    refine hra.mono ?_
    rintro e y7 ⟨rfl, gr', Ar', htw', hn', hrf', hU7, hf7⟩
    have hT7 := HD.out.1.add hlog' hms' hU6 hrf' htw' hn' hU7 hf7
    have hz7 := hU7.size
    have hnb : ∀ q, (q < W.heap.size ∨ y2.heap.size ≤ q) → ¬ (q = rb ∨ blk Ar.ra = some q) := fun q hq e => by
     have h2 := HQ.out
     rcases e with e | e
     ·rcases hq with hq | hq <;> omega
     ·have h3 := HS2.out.1.wa q e
      have h4 := (HS2.out.1.ref.n1 q e).2.2
      rcases hq with hq | hq <;> omega
    have hnl : ∀ q, (q < W.heap.size ∨ y2.heap.size ≤ q) → ¬ q = lb := fun q hq e => by
     have h2 := HQ.out
     rcases hq with hq | hq <;> omega
    have hvb7 : Vw y7 ab L.length cb 1 (bvs L) := hvb6.updL hU7 (fun hne q hq => hnb q ((HQ.out.2.2.2.2.2.2.1 hne q hq).elim .inl (fun h => .inr h.1)))
    have hgi7 : W.heap.size < gi ∨ y2.heap.size ≤ gi := .inr (by have := HQ.out; omega)
    have hod7 : y7.ownsRow 0 5 1 (.slice (some ⟨gi, 0, none⟩) (L.length + 3) (L.length + 3)) (L.length + 3) (bvs (L ++ [71, 71, 71])) := by
     refine ownsRow_upd (ownsRow_upd HD.out.2.1 hU6 (fun q hq => ?_)) hU7 (fun q hq => ?_)
     ·have hq : gi = q := Option.some.inj ((own_blk _ _ _).symm.trans hq)
      exact hnl q (.inr (by have := HQ.out; omega))
     ·have hq : gi = q := Option.some.inj ((own_blk _ _ _).symm.trans hq)
      exact hnb q (.inr (by have := HQ.out; omega))
    have hkp := keptB_any gi ab cb L 71 y7 (by omega) hod7 hvb7
    rw [show (((71 : UInt8).toNat : Nat) : Int) = 71 from rfl] at hkp
    obtain ⟨⟨E, m'⟩, hm'⟩ : ∃ s, s = m.step L := ⟨_, rfl⟩
    rw [← hm'] at hT7 hsi hsj hsn
    rw [show (m.step L).1 = E from by rw [← hm']]
    dsimp only at hT7 hsi hsj hsn
    have HT7 := Lib.hid hT7
    have HM7 := Lib.hid (And.intro hsi (And.intro hsj hsn))
    have htw7 := hT7.twin
    obtain ⟨at2, hat2⟩ : ∃ v, v = gr'.at_ := ⟨_, rfl⟩
    obtain ⟨da2, hda2⟩ : ∃ v, v = Ar'.da := ⟨_, rfl⟩
    obtain ⟨dl2, hdl2⟩ : ∃ v, v = gr'.ds.length := ⟨_, rfl⟩
    obtain ⟨dc2, hdc2⟩ : ∃ v, v = Ar'.dc := ⟨_, rfl⟩
    obtain ⟨WL2, hWL2⟩ : ∃ v, v = (wtA gr'.pd).toList := ⟨_, rfl⟩
    obtain ⟨n2, hn2⟩ : ∃ v, v = gr'.n := ⟨_, rfl⟩
    have hSS : ∀ w', Upd (fun _ => False) y7 w' → (fun w' => w'.cell? ⟨rb, 1, none⟩ = some (.int .i64 at2) ∧ w'.cell? ⟨rb, 2, none⟩ = some (.slice da2 dl2 dc2) ∧ w'.rangeAt rb 3 WL2 ∧ w'.cell? ⟨rb, 10, none⟩ = some (.int .i64 n2)) w' := fun w' hU => by
     have h := hT7.ref.other hU
     refine ⟨by rw [hat2]; exact h.c1, by rw [hda2, hdl2, hdc2]; exact h.c2, fun k u hu => ?_, by rw [hn2]; exact h.c10⟩
     rw [cell_of_row _ _ _ _ _ _ h.row]
     rw [hWL2] at hu
     match k, hu with
     | 0, hu | 1, hu | 2, hu | 3, hu | 4, hu | 5, hu | 6, hu => exact hu
     | k + 7, hu => simp [wtA] at hu
    have HSS := Lib.hid hSS
    have hS7 := hSS y7 (Upd.refl _ _)
    have hWlen : (Tryz.prog.info? 30).map (·.size) = some WL2.length := by rw [infoPd7, hWL2]; rfl
    have HWL := Lib.hid (And.intro hWL2 hWlen)
    have HVV := Lib.hid (And.intro hat2 (And.intro hda2 (And.intro hdl2 (And.intro hdc2 hn2))))
    have HTW := Lib.hid htw7
    clear hra hvb6 hbl6 hz6 hz5 hrf6 hlog' hms' hU6 hrf' htw' hn' hU7 hf7 hT7 hz7 hnb hnl hvb7 hgi7 hod7 hsi hsj hsn hm' htw7 hat2 hda2 hdl2 hdc2 hWL2 hn2 hSS hWlen
    go_wp2_with fail
    refine hK5.out _ _ (fun w' => w'.cell? ⟨rb, 1, none⟩ = some (.int .i64 at2) ∧ w'.cell? ⟨rb, 2, none⟩ = some (.slice da2 dl2 dc2) ∧ w'.rangeAt rb 3 WL2 ∧ w'.cell? ⟨rb, 10, none⟩ = some (.int .i64 n2)) hS7 ?_
    iterate 4
     first | refine plan_skip rfl rfl ?_ | (refine plan_take (v := ?_) rfl rfl (fun w' hS => ?_) ?_; rotate_left; · (go_simp; try with_reducible rfl))
     simp only [putL]
    refine plan_act rfl (fun KA hKA => ?_)
    go_wp2_with fail
    refine Calls.mono hkp ?_
    rintro e y8 ⟨rfl, hU8⟩
    have HU8 := Lib.hid hU8
    have hS8 := HSS.out y8 hU8
    have h8 := HT7.out.other hU8
    have hatc := (letI : Inhabited RbT := ⟨⟨_⟩⟩; mAtX h8.log (by have := HM7.out.1.t0; rw [← h8.ms] at this; exact this) (by have h1 := HM7.out.1.t1; have h2 := HM7.out.1.rr; rw [← h8.ms] at h1 h2; show gm'.top ≤ 100000; have h3 : gm'.ms.top = gm'.top := rfl; omega))
    have hta : gm'.top - 1 = at2 := by
     have h1 := HTW.out.top
     have h2 : m'.top = gm'.top := by rw [← HT7.out.ms]; rfl
     have h3 := HVV.out.1
     omega
    rw [hta] at hatc
    clear hkp hU8 h8 hS7
    go_wp2_with fail
    refine hKA.out _ _ (.inr hS8) ?_
    iterate 8
     first | refine plan_skip rfl rfl ?_ | (refine plan_take (v := ?_) rfl rfl (fun w' hS => ?_) ?_; rotate_left; · (go_simp; try with_reducible rfl))
     simp only [putL]
    clear hta
    refine plan_act rfl (fun KA hKA => ?_)
    go_wp2_with fail
    refine Calls.mono hatc ?_
    rintro e w' ⟨rfl, rfl⟩
    clear hatc
    go_wp2_with fail
    refine hKA.out _ _ (.inr hS8) ?_
    iterate 5
     first | refine plan_skip rfl rfl ?_ | (refine plan_take (v := ?_) rfl rfl (fun w' hS => ?_) ?_; rotate_left; · (go_simp; try with_reducible rfl))
     simp only [putL]
    have h8 := HT7.out.other HU8.out
    have hps : ∀ (r : Rt), (rtC r).p = r.p := fun _ => rfl
    have hpl : m'.rr.map (·.p) = gm'.rr.map (·.p) := by rw [← HT7.out.ms]; show (gm'.rr.map rtC).map (·.p) = _; rw [List.map_map]; rfl
    have hpr : m'.rr.map (·.p) = gr'.rr.map (·.p) := by rw [HTW.out.rr, List.map_map]; rfl
    obtain ⟨LL, hch, hLL⟩ := chain_ex (m'.rr.map (·.p)) (fun i p hp => by
     rw [List.getElem?_map] at hp
     cases hq : m'.rr[i]? with
     | none => rw [hq] at hp; cases hp
     | some r => rw [hq] at hp; have := HM7.out.1.prev i r hq; cases hp; exact this) (at2 + 2).toNat at2 (by have h1 := HM7.out.1.t0; have h2 := HTW.out.top; have h3 := HVV.out.1; omega) (by rw [List.length_map]; have h1 := HM7.out.1.t1; have h2 := HTW.out.top; have h3 := HVV.out.1; omega) (by have h1 := HM7.out.1.t0; have h2 := HTW.out.top; have h3 := HVV.out.1; omega)
    have htm : gm'.top = m'.top := by rw [← HT7.out.ms]; rfl
    have hLL2 : LL.length ≤ 100000 := by have h1 := HM7.out.1.t1; have h2 := HTW.out.top; have h3 := HVV.out.1; have h4 := HM7.out.1.rr; omega
    have hta : gm'.top - 1 = at2 := by have h1 := HTW.out.top; have h3 := HVV.out.1; omega
    have hml := (letI : Inhabited RbT := ⟨⟨_⟩⟩; mLineX gm' Am' lb LL y8 h8.log (by rw [← hpl, hta]; exact hch) (by have := HM7.out.1.t0; omega) (by have h1 := HM7.out.1.t1; have h2 := HM7.out.1.rr; omega) hLL2)
    have hrl := fun (w' : World) (hU : Upd (fun _ => False) y8 w') => rLine_any gr' Ar' rb lb LL w' (h8.ref.other hU) (by rw [← hpr, ← HVV.out.1]; exact hch) hLL2
    have HRL := Lib.hid hrl
    clear h8 hps hpl hpr hch hLL hLL2 hta htm hrl hS8
    refine plan_act rfl (fun KA hKA => ?_)
    go_wp2_with fail
    refine Calls.mono hml ?_
    unfold Lined
    rintro e y9 ⟨al, cl, rfl, hol, _, hU9⟩
    have HU9 := Lib.hid (HU8.out.trans hU9)
    have hS9 := HSS.out y9 HU9.out
    have hrl := HRL.out y9 hU9
    have HOL := Lib.hid (Vw.of_own hol)
    clear hml hol hU9 HRL
    go_wp2_with fail
    refine hKA.out _ _ (.inr hS9) ?_
    refine plan_act rfl (fun KA hKA => ?_)
    go_wp2_with fail
    refine Calls.mono hrl ?_
    unfold LinedV
    rintro e y10 ⟨al2, cl2, rfl, hol2, hU10⟩
    have hpi := plainI_any al al2 cl cl2 LL.reverse LL.reverse y10 (by rw [List.length_reverse]; exact HOL.out.upd hU10 (fun _ _ h => h)) (by rw [List.length_reverse]; exact hol2)
    rw [List.length_reverse, show (LL.reverse == LL.reverse) = true from by simp] at hpi
    have HU10 := Lib.hid (HU9.out.trans hU10)
    have hS10 := HSS.out y10 HU10.out
    clear hrl hol2 hU10 hS9
    go_wp2_with fail
    refine hKA.out _ _ (.inr hS10) ?_
    refine plan_act rfl (fun KA hKA => ?_)
    go_wp2_with fail
    refine Calls.mono hpi ?_
    rintro e y11 ⟨rfl, hU11⟩
    have HU11 := Lib.hid (HU10.out.trans hU11)
    have hS11 := HSS.out y11 HU11.out
    have h11 := HT7.out.other HU11.out
    have hgd : gm'.ds = m'.ds := by rw [← HT7.out.ms]; rfl
    have hdl : gm'.ds.length ≤ 1000000 := by
     rw [hgd]
     have h1 := HM7.out.1.dl
     have h2 := HM7.out.2.2
     have h3 := HS.out.2.2.2.2.1
     split at h2 <;> omega
    have hrd := (letI : Inhabited RbT := ⟨⟨_⟩⟩; mRedosX h11.log hdl)
    have hrv := h11.ref.ds
    rw [← HTW.out.ds] at hrv
    rw [hgd] at hrd
    have hdl3 : dl2 = m'.ds.length := by rw [HVV.out.2.2.1, ← HTW.out.ds]
    have HRV := Lib.hid (And.intro hrv (And.intro hgd hdl3))
    clear hpi hU11 h11 hS10 hgd hdl hrv hdl3
    go_wp2_with fail
    refine hKA.out _ _ (.inr hS11) ?_
    iterate 8
     first | refine plan_skip rfl rfl ?_ | (refine plan_take (v := ?_) rfl rfl (fun w' hS => ?_) ?_; rotate_left; · (go_simp; try with_reducible rfl))
     simp only [putL]
    refine plan_act rfl (fun KA hKA => ?_)
    go_wp2_with fail
    refine Calls.mono hrd ?_
    unfold ClonedI
    rintro e y12 ⟨ad, cd, rfl, hod, hU12⟩
    have hpi := plainI_any ad da2 cd dc2 m'.ds m'.ds y12 (Vw.of_own (own0 hod)) (by have := HRV.out.1.upd hU12 (fun _ _ h => h); rw [HVV.out.2.1, HVV.out.2.2.2.1]; exact this)
    rw [show (m'.ds == m'.ds) = true from by simp] at hpi
    rw [← HRV.out.2.2] at hpi ⊢
    have HU12 := Lib.hid (HU11.out.trans hU12)
    have hS12 := HSS.out y12 HU12.out
    clear hrd hod hU12 hS11
    go_wp2_with fail
    refine hKA.out _ _ (.inr hS12) ?_
    refine plan_act rfl (fun KA hKA => ?_)
    go_wp2_with fail
    refine Calls.mono hpi ?_
    rintro e y13 ⟨rfl, hU13⟩
    have HU13 := Lib.hid (HU12.out.trans hU13)
    have hS13 := HSS.out y13 HU13.out
    have h13 := HT7.out.other HU13.out
    have hwm : wtC gm'.pd = m'.wc := by rw [← HT7.out.ms]; rfl
    have hwo : gm'.pd.on = m'.on := by rw [← HT7.out.ms]; rfl
    have hsm := pend_small (y := gm'.pd) (by rw [hwm]; exact HM7.out.1.w)
    have hpd := (letI : Inhabited RbT := ⟨⟨_⟩⟩; mPending_any gm' Am' lb y13 h13.log hsm.1 hsm.2.1 hsm.2.2)
    have HPP := Lib.hid (And.intro hwm (And.intro hwo h13.ref.pw.1))
    have HRN := Lib.hid h13
    clear hpi hU13 h13 hwm hwo hsm hS12
    go_wp2_with fail
    refine hKA.out _ _ (.inr hS13) ?_
    iterate 7
     first | refine plan_skip rfl rfl ?_ | (refine plan_take (v := ?_) rfl rfl (fun w' hS => ?_) ?_; rotate_left; · (go_simp; try with_reducible rfl))
     simp only [putL]
    refine ⟨_, _, rfl, yieldsIf_load_mid rfl 30 (.tmp 109) rfl rb 3 rfl WL2 _ (fun w' hS => hS.2.2.1) Tryz.underlying30 rfl HWL.out.2, ?_⟩
    simp only [putL]
    refine plan_act rfl (fun KA hKA => ?_)
    go_wp2_with fail
    refine Calls.mono hpd ?_
    unfold PendC
    rintro e y14 ⟨qp, rfl, hqo, hqc, hqi, hU14⟩
    have hsp := sPending_any qp gr'.pd y14 hqi (HPP.out.2.2.upd hU14) (by rw [hqo, HPP.out.2.1, HTW.out.on]) (by rw [hqc, HPP.out.1, HTW.out.wc])
    have hwl : WL2.toArray = wtA gr'.pd := by rw [HWL.out.1]
    rw [← hwl] at hsp
    have HU14 := Lib.hid (HU13.out.trans hU14)
    have hS14 := HSS.out y14 HU14.out
    clear hpd hqo hqc hqi hU14 hwl hS13 HRN
    generalize wtA qp = QA at *
    go_wp2_with fail
    refine hKA.out _ _ (.inr hS14) ?_
    refine plan_act rfl (fun KA hKA => ?_)
    go_wp2_with fail
    refine Calls.mono hsp ?_
    rintro e y15 ⟨rfl, hU15⟩
    have HU15 := Lib.hid (HU14.out.trans hU15)
    have hS15 := HSS.out y15 HU15.out
    have h15 := HT7.out.other HU15.out
    have hrn := (letI : Inhabited RbT := ⟨⟨_⟩⟩; mRecordsX h15.log)
    have hgn : gm'.n = n2 := by rw [HVV.out.2.2.2.2, HT7.out.n, ← HT7.out.ms]; rfl
    rw [hgn] at hrn
    have HN15 : Hid (At40 W rb lb (j + 1) y15) := Lib.hid ⟨⟨_, _, _, _, _, _, h15, HM7.out.1, HM7.out.2.1, by have h1 := HM7.out.2.2; have h2 := HS.out.2.2.2.1; split at h1 <;> omega, by have h1 := HM7.out.2.2; have h2 := HS.out.2.2.2.2.1; split at h1 <;> omega⟩⟩
    clear hsp hU15 h15 hgn hS14
    go_wp2_with fail
    refine hKA.out _ _ (.inr hS15) ?_
    iterate 8
     first | refine plan_skip rfl rfl ?_ | (refine plan_take (v := ?_) rfl rfl (fun w' hS => ?_) ?_; rotate_left; · (go_simp; try with_reducible rfl))
     simp only [putL]
    refine plan_act rfl (fun KA hKA => ?_)
    go_wp2_with fail
    refine Calls.mono hrn ?_
    rintro e w' ⟨rfl, rfl⟩
    clear hrn
    go_wp2_with fail
    refine hKA.out _ _ (.inr hS15) ?_
    iterate 2
     first | refine plan_lskip rfl rfl ?_ | (refine plan_last (v := ?_) rfl rfl (fun w' hS => ?_) ?_; rotate_left; · (go_simp; try with_reducible rfl))
     simp only [putL]
    refine plan_end ?_
    clear hS15
    go_wp2_with fail
    go_roundw
    case rel => exact ⟨j + 1, lb, by omega, by omega, rfl, by first | rfl | go_num, HN15⟩
    case measure => simp [intOf] <;> omega
 case rest =>
 obtain ⟨lb, j0, rfl, HA⟩ := hcut
 clear HA0
 obtain ⟨⟨P, gm, Am, gr, Ar, m, hT, hmi, hmj, hn0, hnj⟩⟩ := HA.out.1
 have hrl : m.rr.length = gr.rr.length := by rw [hT.twin.rr, List.length_map]
 have hrr2 := hmi.rr
 have hrg : m.rr.length = gm.rr.length := by rw [← hT.ms]; exact List.length_map _
 have hcsl : (gr.rr.flatMap (·.ks)).length ≤ 100000 := by
  have h1 := hmi.cs
  rw [hmj.cs, hT.twin.rr, flat_rtC] at h1
  omega
 have hfe := fun v => first_eq hT.twin hmi hmj v
 have hce : gr.rr.flatMap (·.ks) = m.cs := by rw [hmj.cs, hT.twin.rr, flat_rtC]
 have HT := Lib.hid (And.intro hT (And.intro hmi (And.intro hcsl (And.intro hfe hce))))
 have HB := Lib.hid (And.intro hrl (And.intro hrr2 hrg))
 obtain ⟨rl, hrl'⟩ : ∃ x, x = gr.rr.length := ⟨_, rfl⟩
 have HRL := Lib.hid hrl'
 have hrlb : rl ≤ 2000 := by omega
 have HWC := HA
 clear hT hmi hmj hn0 hnj hrl hrr2 hrg HA hcsl hfe hce hrl'
 go_wp2_with fail
 go_loopw [10] (fun i wr => ∃ v : Int, -1 ≤ v ∧ v ≤ (rl : Int) + 1 ∧ i = .int .i64 v ∧ Hid (Upd (fun _ => False) wc wr)) (fun i _ => ((rl : Int) + 1 - intOf i).toNat)
 case atStart => exact ⟨-1, by omega, by omega, rfl, Lib.hid (Upd.refl _ _)⟩
 case round =>
  obtain ⟨v, hv1, hv2, rfl, HU⟩ := hrel
  have hTw := HT.out.1.other HU.out
  have c0 := hTw.ref.c0
  rw [← HRL.out] at c0
  have HTW := Lib.hid hTw
  clear hTw
  by_cases hvl : v ≤ (rl : Int)
  case neg =>
   have hI : decide (v ≤ (rl : Int)) = false := decide_eq_false hvl
   have hcl : gm.cs.length ≤ 1000000 := by
    have h1 := HT.out.2.1.cs
    have h2 : gm.cs = m.cs := by rw [← HTW.out.ms]; rfl
    rw [h2]
    omega
   have hmc := (letI : Inhabited RbT := ⟨⟨_⟩⟩; mCommitsX HTW.out.log hcl)
   have hgc : gm.cs = m.cs := by rw [← HTW.out.ms]; rfl
   rw [hgc] at hmc
   have hrc := fun (w' : World) (hU : Upd (fun _ => False) wr w') => rCommits_any gr Ar rb lb w' (HTW.out.ref.other hU) HT.out.2.2.1
   rw [HT.out.2.2.2.2] at hrc
   have HRC := Lib.hid hrc
   clear hvl hgc hrc
   go_wp2_with fail
   refine Calls.mono hmc ?_
   unfold ClonedK
   rintro e y1 ⟨a1, c1, rfl, ho1, hU1⟩
   have hrc := HRC.out y1 hU1
   have H1 := Lib.hid (And.intro (Vw.of_own (own0 ho1)) (HTW.out.upd.trans hU1))
   clear hmc ho1 hU1 HRC c0
   go_wp2_with fail
   refine Calls.mono hrc ?_
   unfold KeysV
   rintro e y2 ⟨a2, c2, rfl, hv2', hU2⟩
   have hpk := plainKy_any a1 a2 c1 c2 m.cs y2 (H1.out.1.upd hU2 (fun _ _ h => h)) hv2'
   have H2 := Lib.hid (H1.out.2.trans hU2)
   clear hrc hv2' hU2
   go_wp2_with fail
   refine Calls.mono hpk ?_
   rintro e y3 ⟨rfl, hU3⟩
   have H3 := Lib.hid (H2.out.trans hU3)
   clear hpk hU3
   go_wp2_with fail
   go_ret
   exact ⟨rfl, H3.out⟩
  case pos =>
   have hgf : gm.fs = m.fs := by rw [← HTW.out.ms]; rfl
   have hfl : gm.fs.length ≤ 1000000 := by
    have h1 := HT.out.2.1.fs
    have h2 := HT.out.2.1.rr
    rw [hgf]
    omega
   have hf1g := fun (w' : World) (hU : Upd (fun _ => False) wr w') => (letI : Inhabited RbT := ⟨⟨_⟩⟩; mFirstX (HTW.out.other hU).log v hfl)
   have hf2g := fun (w' : World) (hU : Upd (fun _ => False) wr w') => rFirst_any gr Ar rb lb v w' (HTW.out.ref.other hU) HT.out.2.2.1
   rw [hgf, HT.out.2.2.2.1 v] at hf1g
   have HF1 := Lib.hid hf1g
   have HF2 := Lib.hid hf2g
   have hroot := (letI : Inhabited RbT := ⟨⟨_⟩⟩; mRootX gm Am lb v wr HTW.out.log (by have := HB.out; omega) (fun r hr => root_small (HT.out.2.1.ok (rtC r) (by rw [← HTW.out.ms]; exact List.mem_map.2 ⟨r, hr, rfl⟩))))
   clear hgf hfl hf1g hf2g
   generalize firstR gr.rr v = FV at *
   go_wp2_with fail
   refine Calls.mono hroot ?_
   unfold RootTold
   rintro e y1 ⟨q, hqi, hU1, hor⟩
   have hzr := heap_alloc_new y1 (.cells #[.int .i64 0, .slice none 0 0, .slice none 0 0, .slice none 0 0, .int .i64 0] 26)
   have hU2 : Upd (fun _ => False) y1 ((y1.alloc (.cells #[.int .i64 0, .slice none 0 0, .slice none 0 0, .slice none 0 0, .int .i64 0] 26)).setRow y1.heap.size (rtA q)) := (Upd.alloc (fun _ => False) y1 (.cells #[.int .i64 0, .slice none 0 0, .slice none 0 0, .slice none 0 0, .int .i64 0] 26)).next (Upd.setRow (S := fun k => k = y1.heap.size) _ rfl (rtA q)) (fun i hi e => by omega)
   have hrow := setRow_heap _ _ _ (rtA q) _ _ hzr
   have hsz : (Tryz.prog.info? 26).map (·.size) = some (rtA q).size := by rw [infoRoot]; rfl
   have h5 : (rtA q).size = 5 := rfl
   have hone := rtA_one q
   have HA := Lib.hid (And.intro hsz (And.intro h5 hone))
   have HQI := Lib.hid (And.intro hqi hU2)
   have HU2 := Lib.hid (hU1.trans hU2)
   have c02 := (HTW.out.other HU2.out).ref.c0
   rw [← HRL.out] at c02
   clear hqi hU1 hU2 hsz h5 hone hroot c0
   rcases hor with ⟨h0, r, hr, hqc, rfl⟩ | ⟨hno, rfl⟩
   ·obtain ⟨k, rfl⟩ : ∃ k : Nat, v = (k : Int) := ⟨v.toNat, by omega⟩
    rw [Int.toNat_natCast] at hr
    have hkl : k < rl := by
     have h1 := (List.getElem?_eq_some_iff.1 hr).1
     have h2 := HB.out
     have h3 := HRL.out
     omega
    have hkr : k < gr.rr.length := by have := HRL.out; omega
    obtain ⟨x, hx⟩ : ∃ x, gr.rr[k]? = some x := ⟨_, List.getElem?_eq_getElem hkr⟩
    have hxc : rtC r = rtC x := by
     have h1 : gm.rr.map rtC = gr.rr.map rtC := by rw [← HTW.out.twin.rr, ← HTW.out.ms]; rfl
     have h2 := congrArg (fun l => l[k]?) h1
     simp only [List.getElem?_map, hr, hx, Option.map_some, Option.some.injEq] at h2
     exact h2
    have hxin := ((HTW.out.other HU2.out).ref.re x (List.mem_of_getElem? hx)).1
    have hsr := fun (w' : World) (hU : Upd (fun _ => False) _ w') => sRoot_any q x w' ((HQI.out.1.upd HQI.out.2).upd hU) (hxin.upd hU) (hqc.trans hxc)
    have HSR := Lib.hid hsr
    obtain ⟨b, oo, hb, hcell⟩ := ((HTW.out.other HU2.out).ref.other (Upd.drew _ _)).rv.at (by omega) (by decide)
    have hrg : World.rangeAt ((y1.alloc (.cells #[.int .i64 0, .slice none 0 0, .slice none 0 0, .slice none 0 0, .int .i64 0] 26)).setRow y1.heap.size (rtA q)).drew b (oo + k * 5) (rtV x) := fun n u hu => by
     have := hcell (k * 5 + n) u (rt_range gr.rr k x hx n u hu)
     rw [← Nat.add_assoc] at this
     exact this
    have hXV : (rtV x).toArray = rtA x := by unfold rtV; simp
    have hXL : (rtV x).length = 5 := rfl
    have HXV := Lib.hid (And.intro hXV hXL)
    rw [hb] at c02
    have hI1 : (0 : Int) ≤ (k : Int) := by omega
    have hI2 : (k : Int) < (rl : Int) := by omega
    clear hr hqc hxc hxin hsr hcell hb hXV hXL hx h0 hkr hkl
    generalize rtV x = XV at *
    generalize rtA x = XA at *
    have hxv := HXV.out.1
    subst hxv
    generalize rtA q = AA at *
    go_upto_region 25 with (refine wpList_store_row rfl 26 (.tmp 11) (.tmp 136) rfl y1.heap.size AA _ 26 rfl rfl hzr HA.out.1 (by rw [HA.out.2.1]; rfl) HA.out.2.2 ?_)
    obtain ⟨BR, hBR⟩ : ∃ B, B = y1.heap.size := ⟨_, rfl⟩
    rw [← hBR] at hrow HSR HU2 c02 hrg HQI ⊢
    clear hBR hzr
    generalize (y1.alloc (.cells #[.int .i64 0, .slice none 0 0, .slice none 0 0, .slice none 0 0, .int .i64 0] 26)).setRow BR AA = y2 at *
    have c03 : y2.drew.cell? ⟨rb, 0, none⟩ = some (.slice (some ⟨b, oo, none⟩) rl Ar.rc) := c02
    have hrow3 : y2.drew.heap[BR]? = some (.cells AA 26) := hrow
    refine wp_region_plan_last [([0, 1, 2, 3, 4, 5, 6, 7, 8, 9, 10, 11, 12, 13], 14), ([15, 16, 17, 18, 19, 20, 22, 23], 21), ([], 24)] [25, 26] (fun w' => w'.heap[BR]? = some (.cells AA 26 (0, 0)) ∧ w'.cell? ⟨rb, 0, none⟩ = some (.slice (some ⟨b, oo, none⟩) rl Ar.rc) ∧ w'.rangeAt b (oo + k * 5) XV) (by kernel_rfl) (by kernel_rfl) ⟨hrow3, c03, hrg⟩ ?_
    have HUD : Hid (Upd (fun _ => False) wr y2.drew) := Lib.hid (HU2.out.trans (Upd.drew _ _))
    have hsr := HSR.out y2.drew (Upd.drew _ _)
    have HS0 := Lib.hid (And.intro hrow3 (And.intro c03 hrg))
    have HSU : Hid (∀ w', Upd (fun _ => False) y2.drew w' → w'.heap[BR]? = some (.cells AA 26 (0, 0)) ∧ w'.cell? ⟨rb, 0, none⟩ = some (.slice (some ⟨b, oo, none⟩) rl Ar.rc) ∧ w'.rangeAt b (oo + k * 5) XV) := Lib.hid (fun w' hU => ⟨(hU.block _ (lt_of_heap hrow3) (fun h => h)).trans hrow3, (hU.cell (World.block_lt_of_cell? _ _ c03) (fun h => h)).trans c03, fun n u hu => (hU.cell (World.block_lt_of_cell? _ _ (hrg n u hu)) (fun h => h)).trans (hrg n u hu)⟩)
    clear HSR hrow hrow3 c03 hrg c02
    generalize y2.drew = y3 at *
    iterate 6
     first | refine plan_skip rfl rfl ?_ | (refine plan_take (v := ?_) rfl rfl (fun w' hS => ?_) ?_; rotate_left; · (go_simp; try with_reducible rfl))
     simp only [putL]
    refine plan_take (v := .agg AA) rfl rfl (fun w' hS => exec_load_row 26 (.tmp 11) rfl BR AA 26 (0, 0) _ rfl hS.1 Tryz.underlying26 rfl HA.out.1) ?_
    simp only [putL]
    iterate 6
     first | refine plan_skip rfl rfl ?_ | (refine plan_take (v := ?_) rfl rfl (fun w' hS => ?_) ?_; rotate_left; · (go_simp; try with_reducible rfl))
     simp only [putL]
    refine ⟨_, _, rfl, yieldsIf_load_mid rfl 26 (.tmp 161) rfl b (oo + k * 5) rfl XV _ (fun w' hS => hS.2.2) Tryz.underlying26 rfl (by rw [infoRoot, HXV.out.2]), ?_⟩
    simp only [putL]
    refine plan_act rfl (fun KA hKA => ?_)
    go_wp2_with fail
    refine Calls.mono hsr ?_
    rintro e y4' ⟨rfl, hU4'⟩
    have HU3 := Lib.hid hU4'
    have hf1 := HF1.out y4' (HUD.out.trans hU4')
    have hS4' := HSU.out y4' hU4'
    clear hsr hU4'
    go_wp2_with fail
    refine hKA.out _ _ (.inr hS4') ?_
    clear hS4'
    iterate 8
     first | refine plan_skip rfl rfl ?_ | (refine plan_take (v := ?_) rfl rfl (fun w' hS => ?_) ?_; rotate_left; · (go_simp; try with_reducible rfl))
     simp only [putL]
    refine plan_act rfl (fun KB hKB => ?_)
    go_wp2_with fail
    refine Calls.mono hf1 ?_
    rintro e y4 ⟨rfl, hU4⟩
    have hf2 := HF2.out y4 ((HUD.out.trans HU3.out).trans hU4)
    have HU4 := Lib.hid ((HUD.out.trans HU3.out).trans hU4)
    have HU34 := Lib.hid hU4
    have hS4 := HSU.out y4 (HU3.out.trans hU4)
    clear hf1 hU4
    go_wp2_with fail
    refine hKB.out _ _ (.inr hS4) ?_
    refine plan_act rfl (fun KC hKC => ?_)
    go_wp2_with fail
    refine Calls.mono hf2 ?_
    rintro e y5 ⟨rfl, hU5⟩
    have HU5 := Lib.hid (HU4.out.trans hU5)
    have hS5 := HSU.out y5 ((HU3.out.trans (HU34.out)).trans hU5)
    clear hf2 hU5
    go_wp2_with fail
    refine hKC.out _ _ (.inr hS5) ?_
    iterate 2
     first | refine plan_lskip rfl rfl ?_ | (refine plan_last (v := ?_) rfl rfl (fun w' hS => ?_) ?_; rotate_left; · (go_simp; try with_reducible rfl))
     simp only [putL]
    refine plan_end ?_
    have HUF := Lib.hid (HU.out.trans HU5.out)
    have hvw : IntKind.i64.wrap ((k : Int) + 1) = (k : Int) + 1 := IntWalk.i64_in _ (by omega)
    go_wp2_with fail
    go_roundw
    case rel => exact ⟨(k : Int) + 1, by omega, by omega, by first | rfl | go_num | (rw [hvw]), HUF⟩
    case measure => simp [intOf] <;> omega
   ·have hkk : v < 0 ∨ v = (rl : Int) := by
     have h2 := HB.out
     have h3 := HRL.out
     omega
    generalize rtA q = AA at *
    rcases hkk with hneg | rfl
    ·have hI1 : decide (0 ≤ v) = false := decide_eq_false (by omega)
     clear hno
     go_upto_region 25 with (refine wpList_store_row rfl 26 (.tmp 11) (.tmp 136) rfl y1.heap.size AA _ 26 rfl rfl hzr HA.out.1 (by rw [HA.out.2.1]; rfl) HA.out.2.2 ?_)
     generalize (y1.alloc (.cells #[.int .i64 0, .slice none 0 0, .slice none 0 0, .slice none 0 0, .int .i64 0] 26)).setRow y1.heap.size AA = y2 at *
     refine wp_region_plan_last [([0, 1, 2, 3, 4, 5, 6, 7, 8, 9, 10, 11, 12, 13, 14, 15, 16, 17, 18, 19, 20, 22, 23], 21), ([], 24)] [25, 26] (fun _ => True) (by kernel_rfl) (by kernel_rfl) trivial ?_
     have HUD : Hid (Upd (fun _ => False) wr y2.drew) := Lib.hid (HU2.out.trans (Upd.drew _ _))
     have hf1 := HF1.out y2.drew HUD.out
     generalize y2.drew = y3 at *
     iterate 23
      first | refine plan_skip rfl rfl ?_ | (refine plan_take (v := ?_) rfl rfl (fun w' hS => ?_) ?_; rotate_left; · (go_simp; try with_reducible rfl))
      simp only [putL]
     refine plan_act rfl (fun KB hKB => ?_)
     go_wp2_with fail
     refine Calls.mono hf1 ?_
     rintro e y4 ⟨rfl, hU4⟩
     have hf2 := HF2.out y4 (HUD.out.trans hU4)
     have HU4 := Lib.hid (HUD.out.trans hU4)
     clear hf1 hU4
     go_wp2_with fail
     refine hKB.out _ _ (.inr trivial) ?_
     refine plan_act rfl (fun KC hKC => ?_)
     go_wp2_with fail
     refine Calls.mono hf2 ?_
     rintro e y5 ⟨rfl, hU5⟩
     have HU5 := Lib.hid (HU4.out.trans hU5)
     clear hf2 hU5
     go_wp2_with fail
     refine hKC.out _ _ (.inr trivial) ?_
     iterate 2
      first | refine plan_lskip rfl rfl ?_ | (refine plan_last (v := ?_) rfl rfl (fun w' hS => ?_) ?_; rotate_left; · (go_simp; try with_reducible rfl))
      simp only [putL]
     refine plan_end ?_
     have HUF := Lib.hid (HU.out.trans HU5.out)
     have hvw : IntKind.i64.wrap (v + 1) = v + 1 := IntWalk.i64_in _ (by omega)
     go_wp2_with fail
     go_roundw
     case rel => exact ⟨v + 1, by omega, by omega, by first | rfl | go_num | (rw [hvw]), HUF⟩
     case measure => simp [intOf] <;> omega
    ·clear hno
     go_upto_region 25 with (refine wpList_store_row rfl 26 (.tmp 11) (.tmp 136) rfl y1.heap.size AA _ 26 rfl rfl hzr HA.out.1 (by rw [HA.out.2.1]; rfl) HA.out.2.2 ?_)
     generalize (y1.alloc (.cells #[.int .i64 0, .slice none 0 0, .slice none 0 0, .slice none 0 0, .int .i64 0] 26)).setRow y1.heap.size AA = y2 at *
     refine wp_region_plan_last [([0, 1, 2, 3, 4, 5, 6, 7, 8, 9, 10, 11, 12, 13, 14, 15, 16, 17, 18, 19, 20, 22, 23], 21), ([], 24)] [25, 26] (fun _ => True) (by kernel_rfl) (by kernel_rfl) trivial ?_
     have HUD : Hid (Upd (fun _ => False) wr y2.drew) := Lib.hid (HU2.out.trans (Upd.drew _ _))
     have hf1 := HF1.out y2.drew HUD.out
     generalize y2.drew = y3 at *
     iterate 23
      first | refine plan_skip rfl rfl ?_ | (refine plan_take (v := ?_) rfl rfl (fun w' hS => ?_) ?_; rotate_left; · (go_simp; try with_reducible rfl))
      simp only [putL]
     refine plan_act rfl (fun KB hKB => ?_)
     go_wp2_with fail
     refine Calls.mono hf1 ?_
     rintro e y4 ⟨rfl, hU4⟩
     have hf2 := HF2.out y4 (HUD.out.trans hU4)
     have HU4 := Lib.hid (HUD.out.trans hU4)
     clear hf1 hU4
     go_wp2_with fail
     refine hKB.out _ _ (.inr trivial) ?_
     refine plan_act rfl (fun KC hKC => ?_)
     go_wp2_with fail
     refine Calls.mono hf2 ?_
     rintro e y5 ⟨rfl, hU5⟩
     have HU5 := Lib.hid (HU4.out.trans hU5)
     clear hf2 hU5
     go_wp2_with fail
     refine hKC.out _ _ (.inr trivial) ?_
     iterate 2
      first | refine plan_lskip rfl rfl ?_ | (refine plan_last (v := ?_) rfl rfl (fun w' hS => ?_) ?_; rotate_left; · (go_simp; try with_reducible rfl))
      simp only [putL]
     refine plan_end ?_
     have HUF := Lib.hid (HU.out.trans HU5.out)
     have hvw : IntKind.i64.wrap ((rl : Int) + 1) = (rl : Int) + 1 := IntWalk.i64_in _ (by omega)
     go_wp2_with fail
     go_roundw
     case rel => exact ⟨(rl : Int) + 1, by omega, by omega, by first | rfl | go_num | (rw [hvw]), HUF⟩
     case measure => simp [intOf] <;> omega
end Go.Proofs.YtccejkikphpnfaaGreatDoor
