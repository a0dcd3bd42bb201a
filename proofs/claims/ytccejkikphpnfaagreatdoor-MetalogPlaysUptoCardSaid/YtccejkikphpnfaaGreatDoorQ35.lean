
/- the document's reader of a wait. -/
import Derived.Test.YtccejkikphpnfaaGreatDoorQ34
namespace Go.Proofs.YtccejkikphpnfaaGreatDoor
set_option linter.unusedSimpArgs false
set_option linter.unusedVariables false
set_option maxRecDepth 100000
open Go.ChangeShapes Go.WideShapes Go.ChangeAt Go.RowKit
def GotWtR (w : World) (br : Nat) (F : Option Nat) (s' : RS) (v : WC) (e : Ending) (w' : World) : Prop :=
 ∃ p : Wt, e = .returned (.agg (wtA p)) ∧ p.on = true ∧ wtC p = v ∧ WtIn w' p ∧ WtBl (fun g => w.heap.size ≤ g ∧ g < w'.heap.size) p ∧ Rf w' br F s' ∧ Upd (fun k => k = br) w w'
theorem infoSt2 : (Tryz.prog.info? 80).map (·.size) = some 2 := by kernel_rfl
theorem infoPd7 : (Tryz.prog.info? 30).map (·.size) = some 7 := by kernel_rfl
set_option maxHeartbeats 32000000 in
theorem r21wait_any (br : Nat) (F : Option Nat) (s : RS) (w : World) (hr : Rf w br F s) (hF : ∀ g, F = some g → g < w.heap.size) :
  Calls Tryz.prog 112 #[.pointer (some ⟨br, 0, none⟩)] w (GotWtR w br F (waitS s).2 (waitS s).1) := by
 have hU0 := Upd.alloc (fun _ => False) w (.cells #[.bool false, .bool false, .int .i64 0, .int .i64 0, .slice none 0 0, .int .i64 0, .slice none 0 0] 30)
 have hb0 := heap_alloc_new w (.cells #[.bool false, .bool false, .int .i64 0, .int .i64 0, .slice none 0 0, .int .i64 0, .slice none 0 0] 30)
 have hlt := hr.lt
 have hl := hr.len
 have hc := rfbool_any br F s _ (hr.upd hU0 (fun h => h) (fun _ _ h => h))
 have HS : Hid (waitS s = (⟨(boolS s).1, intV (boolS s).2, intV (takeS 4 (boolS s).2).2, (wS1 s).1, intV (takeS 4 (takeS 4 (boolS s).2).2).2, (wS2 s).1⟩, (wS2 s).2)) := Lib.hid rfl
 have h1 : wS1 s = listS stS (intV (takeS 4 (takeS 4 (takeS 4 (boolS s).2).2).2).2).toNat (takeS 4 (takeS 4 (takeS 4 (takeS 4 (boolS s).2).2).2).2).2 := rfl
 have h2 : wS2 s = listS clS (intV (wS1 s).2).toNat (takeS 4 (wS1 s).2).2 := rfl
 have l0 : (boolS s).2.l.length ≤ s.l.length := bool_goes.le s
 have l1 := takeS_len 4 (boolS s).2
 have l2 := takeS_len 4 (takeS 4 (boolS s).2).2
 have l3 := takeS_len 4 (takeS 4 (takeS 4 (boolS s).2).2).2
 have l4 : (wS1 s).2.l.length ≤ (takeS 4 (takeS 4 (takeS 4 (boolS s).2).2).2).2.l.length := (some_goes st_eats.toGoes).le _
 generalize waitS s = SS at *
 generalize wS1 s = q1 at *
 generalize wS2 s = q2 at *
 generalize (boolS s).1 = re at *
 generalize (boolS s).2 = s1 at *
 have hc1 := fun w hr => rfint_any br F s1 w hr
 have hc2 := fun w hr => rfint_any br F (takeS 4 s1).2 w hr
 have hc3 := fun w hr => rfint_any br F (takeS 4 (takeS 4 s1).2).2 w hr
 generalize intV s1 = src at *
 generalize (takeS 4 s1).2 = s2 at *
 generalize intV s2 = dst at *
 generalize (takeS 4 s2).2 = s3 at *
 generalize intV s3 = com at *
 generalize (takeS 4 s3).2 = s4 at *
 have HM := Lib.hid (And.intro h1 h2)
 have HL := Lib.hid (And.intro hl (And.intro l0 (And.intro l1 (And.intro l2 (And.intro l3 l4)))))
 have HU0 := Lib.hid (And.intro hU0 (And.intro hb0 (And.intro hlt hF)))
 clear hU0 hb0 hr hF h1 h2 l0 l1 l2 l3 l4 hl hlt
 go_enter Tryz.func112, Tryz.ntmps112
 go_wp2_with fail
 refine hc.mono ?_
 unfold RfRead
 rintro e v1 ⟨rfl, hR1, hU1⟩
 have hc := hc1 _ hR1
 clear hc1
 go_wp2_with fail
 refine hc.mono ?_
 unfold RfRead
 rintro e v2 ⟨rfl, hR2, hU2⟩
 have hc := hc2 _ hR2
 clear hc2
 go_wp2_with fail
 refine hc.mono ?_
 unfold RfRead
 rintro e v3 ⟨rfl, hR3, hU3⟩
 have hc := hc3 _ hR3
 clear hc3
 go_wp2_with fail
 refine hc.mono ?_
 unfold RfRead
 rintro e w1 ⟨rfl, hR, hU4⟩
 have hU := ((hU1.trans hU2).trans hU3).trans hU4
 clear hU1 hU2 hU3 hU4 hR1 hR2 hR3
 obtain ⟨B2, hB2⟩ : ∃ B, B = w.heap.size := ⟨_, rfl⟩
 have hb2 := (hU.block w.heap.size (lt_of_heap HU0.out.2.1) (by have := HU0.out.2.2.1; omega)).trans HU0.out.2.1
 have hUw := (HU0.out.1.mono (T := fun k => k = br) (fun _ _ h => h.elim)).trans hU
 have hUx := Upd.alloc (fun _ => False) w1 (.cells #[.bool true, .bool re, .int .i64 src, .int .i64 dst, .slice none 0 0, .int .i64 com, .slice none 0 0] 30)
 have hbx := heap_alloc_new w1 (.cells #[.bool true, .bool re, .int .i64 src, .int .i64 dst, .slice none 0 0, .int .i64 com, .slice none 0 0] 30)
 have hx2 := (hUx.block _ (lt_of_heap hb2) (fun h => h)).trans hb2
 have HX := Lib.hid (And.intro (hR.upd hUx (fun h => h) (fun _ _ h => h)) (And.intro hx2 (And.intro hbx (hUw.trans (hUx.mono (T := fun k => k = br) (fun _ _ h => h.elim))))))
 have HN : Hid (B2 = w.heap.size ∧ br < B2 ∧ B2 < w1.heap.size ∧ (∀ g, F = some g → g < B2)) := Lib.hid ⟨hB2, by have := HU0.out.2.2.1; omega, by have := lt_of_heap hb2; omega, fun g hg => by rw [hB2]; exact HU0.out.2.2.2 g hg⟩
 have HBX : Hid (w.heap.size < w1.heap.size) := Lib.hid (by have := HN.out; omega)
 rw [← hB2] at HX ⊢
 clear hR hU hb2 hUw hUx hbx hx2 hB2 hc HU0
 go_upto_region 2 with (fail)
 generalize w1.alloc (.cells #[.bool true, .bool re, .int .i64 src, .int .i64 dst, .slice none 0 0, .int .i64 com, .slice none 0 0] 30) = y1 at *
 generalize w1.heap.size = BX at *
 have hc := rfint_any br F s4 y1 HX.out.1
 have hib := intV_bd s4
 have htl := takeS_len 4 s4
 have hQ1 := HM.out.1
 generalize intV s4 = n1 at *
 generalize (takeS 4 s4).2 = z1 at *
 obtain ⟨N1, hN1⟩ : ∃ N, N = n1.toNat := ⟨_, rfl⟩
 rw [← hN1] at hQ1
 have HLB1 : Hid ((N1 : Int) ≤ 4294967296 ∧ q1 = listS stS N1 z1 ∧ N1 = n1.toNat) := Lib.hid ⟨by omega, hQ1, hN1⟩
 have HSL : Hid (z1.l.length ≤ 100000000) := Lib.hid (by have := HL.out; omega)
 clear hQ1 hN1 hib htl
 go_wp2_with fail
 refine hc.mono ?_
 unfold RfRead
 rintro e w3 ⟨rfl, hR, hU⟩
 have hb2 := (hU.block B2 (lt_of_heap HX.out.2.1) (by have := HN.out; omega)).trans HX.out.2.1
 have hbx := (hU.block BX (lt_of_heap HX.out.2.2.1) (by have := HN.out; have := HBX.out; omega)).trans HX.out.2.2.1
 have HP := Lib.hid (And.intro hb2 (HX.out.2.2.2.trans hU))
 have hst : Qh stV 2 80 stBl StIn 30 (fun a n c => #[.bool true, .bool re, .int .i64 src, .int .i64 dst, .slice a n c, .int .i64 com, .slice none 0 0]) br BX F w3 z1 [] none 0 w3 :=
  ⟨hR, hbx, World.ownsRow_nil _ _ _ _, (fun g h => by cases h), (fun x h => by cases h), Upd.refl _ _, by have := HN.out; have := HBX.out; have := lt_of_heap hbx; omega, lt_of_heap hbx, by have := HN.out; have := HBX.out; omega, fun g hg => by have h := HN.out; have h2 := h.2.2.2 g hg; have := HBX.out; have := lt_of_heap hbx; omega⟩
 have HST := Lib.hid hst
 clear hst hR hU hb2 hbx hc HX
 go_upto_block 0 with (fail)
 go_cut [] (fun wx => ∃ x1 a1 c1, Hid (x1.map stC = q1.1) ∧ Hid (Qh stV 2 80 stBl StIn 30 (fun a n c => #[.bool true, .bool re, .int .i64 src, .int .i64 dst, .slice a n c, .int .i64 com, .slice none 0 0]) br BX F w3 q1.2 x1 a1 c1 wx))
 case first =>
  go_wp2_with fail
  go_loopw [5] (fun i wr => ∃ (j : Nat) (L : List St) (ar : Option Addr) (cr : Nat) (sj : RS), i = .int .i64 (j : Int) ∧ Hid (j ≤ N1 ∧ (N1 : Int) ≤ 4294967296) ∧ Hid (listS stS N1 z1 = (L.map stC ++ (listS stS (N1 - j) sj).1, (listS stS (N1 - j) sj).2)) ∧ Hid (Qh stV 2 80 stBl StIn 30 (fun a n c => #[.bool true, .bool re, .int .i64 src, .int .i64 dst, .slice a n c, .int .i64 com, .slice none 0 0]) br BX F w3 sj L ar cr wr)) (fun i _ => N1 - (intOf i).toNat)
  case atStart => exact ⟨0, [], none, 0, z1, rfl, Lib.hid ⟨Nat.zero_le _, HLB1.out.1⟩, Lib.hid rfl, HST⟩
  case round =>
   clear HST
   obtain ⟨j, L, ar, cr, sj, rfl, HJj, HTj, HI⟩ := hrel
   have hq := HI.out.rd.err
   by_cases hlt : (j : Int) < n1
   case neg =>
    have hI : decide ((j : Int) < n1) = false := by rw [decide_eq_false_iff_not]; exact hlt
    have HTT : Hid (q1 = (L.map stC, sj)) := Lib.hid (by rw [HLB1.out.2.1, HTj.out, show N1 - j = 0 from by have := HJj.out; have := HLB1.out.2.2; omega]; simp [listS])
    clear hlt hq
    go_wp2_with fail
    go_meet
    case rel => exact ⟨L, ar, cr, Lib.hid (by rw [HTT.out]), by rw [HTT.out]; exact HI⟩
   case pos =>
    have hI : decide ((j : Int) < n1) = true := by rw [decide_eq_true_eq]; exact hlt
    by_cases he : sj.e = 0
    case neg =>
     have hbe : (sj.e == 0) = false := by simpa using he
     have HTT : Hid (q1 = (L.map stC, sj)) := Lib.hid (by rw [HLB1.out.2.1, HTj.out, listS_stop _ _ _ he]; simp)
     clear hlt he
     go_wp2_with fail
     go_meet
     case rel => exact ⟨L, ar, cr, Lib.hid (by rw [HTT.out]), by rw [HTT.out]; exact HI⟩
    case pos =>
     rw [he] at hq
     have HS1 : Hid (listS stS (N1 - j) sj = ((stS sj).1 :: (listS stS (N1 - (j + 1)) (stS sj).2).1, (listS stS (N1 - (j + 1)) (stS sj).2).2)) := Lib.hid (by
      have := HJj.out; have := HLB1.out.2.2
      rw [show N1 - j = (N1 - (j + 1)) + 1 from by omega, listS_go _ _ _ he])
     have HJN : Hid (j + 1 ≤ N1 ∧ (N1 : Int) ≤ 4294967296) := Lib.hid (by have := HJj.out; have := HLB1.out.2.2; omega)
     have HLN : Hid (L.length ≤ 100000001) := Lib.hid (by
      have h1 := (listS_len st_eats N1 z1).1
      rw [HTj.out] at h1
      have := HSL.out
      simp only [List.length_append, List.length_map] at h1
      omega)
     clear he
     have htl := takeS_len 4 sj
     have hc := rfint_any br F sj wr HI.out.rd
     have hmk : stS sj = ((intV sj, (listS flS (intV (takeS 4 sj).2).toNat (takeS 4 (takeS 4 sj).2).2).1), (listS flS (intV (takeS 4 sj).2).toNat (takeS 4 (takeS 4 sj).2).2).2) := rfl
     have hlong := fl_long (takeS 4 sj).2
     have hll : someS flS (takeS 4 sj).2 = listS flS (intV (takeS 4 sj).2).toNat (takeS 4 (takeS 4 sj).2).2 := rfl
     rw [hll] at hlong
     have htl2 := takeS_len 4 (takeS 4 sj).2
     have hsl : sj.l.length ≤ 100000000 := HI.out.rd.len
     generalize intV sj = old at *
     generalize (takeS 4 sj).2 = s6 at *
     generalize hw5 : wr = w5 at *
     clear hw5 hll
     go_wp2_with fail
     refine hc.mono ?_
     unfold RfRead
     rintro e u1 ⟨rfl, hR, hU⟩
     have hUx := Upd.alloc (fun _ => False) u1 (.cells #[.int .i64 old, .slice none 0 0] 80)
     have hbm := heap_alloc_new u1 (.cells #[.int .i64 old, .slice none 0 0] 80)
     have hc2 := rfint_any br F s6 _ (hR.upd hUx (fun h => h) (fun _ _ h => h))
     have hbl : br < w5.heap.size := HI.out.rd.lt
     have HU1 := Lib.hid (And.intro hbm (And.intro (hU.trans (hUx.mono (T := fun k => k = br) (fun _ _ h => h.elim))) (And.intro hU.size hbl)))
     have hib := intV_bd s6
     obtain ⟨Q6, hQ6⟩ : ∃ Q, Q = listS flS (intV s6).toNat (takeS 4 s6).2 := ⟨_, rfl⟩
     rw [← hQ6] at hmk hlong
     have HMK := Lib.hid (And.intro hmk (And.intro hlong (show s6.l.length ≤ 100000000 by omega)))
     generalize intV s6 = n6 at *
     generalize (takeS 4 s6).2 = z6 at *
     obtain ⟨N6, hN6⟩ : ∃ N, N = n6.toNat := ⟨_, rfl⟩
     rw [← hN6] at hQ6
     have HLB6 : Hid ((N6 : Int) ≤ 4294967296 ∧ Q6 = listS flS N6 z6 ∧ N6 = n6.toNat) := Lib.hid ⟨by omega, hQ6, hN6⟩
     have HSL6 : Hid (z6.l.length ≤ 100000000) := Lib.hid (by omega)
     clear hR hU hUx hbm hmk hlong hQ6 hN6 hib htl htl2 hsl hc hbl hq
     go_wp2_with fail
     generalize u1.alloc (.cells #[.int .i64 old, .slice none 0 0] 80) = y5 at *
     obtain ⟨BM, hBM⟩ : ∃ B, u1.heap.size = B := ⟨_, rfl⟩
     rw [hBM] at HU1 ⊢
     clear hBM
     refine hc2.mono ?_
     unfold RfRead
     rintro e w6 ⟨rfl, hR, hU⟩
     have hbm := (hU.block BM (lt_of_heap HU1.out.1) (by have := HU1.out.2.2; omega)).trans HU1.out.1
     have HU6 := Lib.hid (And.intro (HU1.out.2.1.trans hU) (And.intro HU1.out.2.2 (lt_of_heap hbm)))
     have hstm : Qh flV 3 103 (fun _ => none) (fun _ _ => True) 80 (fun a n c => #[.int .i64 old, .slice a n c]) br BM F w6 z6 [] none 0 w6 :=
      ⟨hR, hbm, World.ownsRow_nil _ _ _ _, (fun g h => by cases h), (fun x h => by cases h), Upd.refl _ _, by have := HU6.out.2; omega, lt_of_heap hbm, by have := HU6.out.2; omega, fun g hg => by have h1 := (HI.out.n7 g hg).1; have h2 := HI.out.upd.size; have := HU6.out.2; omega⟩
     have HSTM := Lib.hid hstm
     clear hstm hR hU hbm hc2 HU1
     go_wp2_with fail
     go_loopw [8] (fun i wr => ∃ (q : Nat) (M : List Fl) (am : Option Addr) (cm : Nat) (sq : RS), i = .int .i64 (q : Int) ∧ Hid (q ≤ N6 ∧ (N6 : Int) ≤ 4294967296) ∧ Hid (listS flS N6 z6 = (M ++ (listS flS (N6 - q) sq).1, (listS flS (N6 - q) sq).2)) ∧ Hid (Qh flV 3 103 (fun _ => none) (fun _ _ => True) 80 (fun a n c => #[.int .i64 old, .slice a n c]) br BM F w6 sq M am cm wr)) (fun i _ => N6 - (intOf i).toNat)
     case atStart => exact ⟨0, [], none, 0, z6, rfl, Lib.hid ⟨Nat.zero_le _, HLB6.out.1⟩, Lib.hid rfl, HSTM⟩
     case round =>
      clear HSTM
      obtain ⟨q, M, am, cm, sq, rfl, HJq, HTq, HK⟩ := hrel
      have hq := HK.out.rd.err
      by_cases hlt : (q : Int) < n6
      case neg =>
       have hI : decide ((q : Int) < n6) = false := by rw [decide_eq_false_iff_not]; exact hlt
       have HTT : Hid (Q6 = (M, sq)) := Lib.hid (by rw [HLB6.out.2.1, HTq.out, show N6 - q = 0 from by have := HJq.out; have := HLB6.out.2.2; omega]; simp [listS])
       clear hlt hq
       clear HTq
       have hUm := HU6.out.1.next HK.out.upd (fun i hi e => by have := HU6.out.2; omega)
       have HQ := Lib.hid (HI.out.read st_stays HK.out.rd hUm)
       have hvm : StIn wr ⟨old, M, am, cm⟩ := ⟨Vw.of_own HK.out.own, fun x hx => by have h1 := HMK.out.2.1 x (by rw [HTT.out]; exact hx); have h2 := HMK.out.2.2; unfold maxLen; omega, fun x hx => by have h1 := HMK.out.2.1 x (by rw [HTT.out]; exact hx); have h2 := HMK.out.2.2; unfold maxLen; omega⟩
       have hbm : ∀ g, blk am = some g → w3.heap.size ≤ g ∧ g < wr.heap.size ∧ blk ar ≠ some g := fun g hg => by
        have h1 := HK.out.fr g hg
        have h2 := (HK.out.own.lt g ((own_blk _ _ _).trans hg)).2
        have h3 := HI.out.upd.size
        have h4 := HU6.out.2
        exact ⟨by omega, h2, fun e => by have := (HI.out.own.lt g ((own_blk _ _ _).trans e)).2; omega⟩
       have hrm := HK.out.var
       have hUb := Upd.alloc (fun _ => False) wr (.cells #[.int .i64 old, .slice am M.length cm] 80)
       have hsrc : Src Tryz.prog 2 27 (.slice (some ⟨wr.heap.size, 0, none⟩) 1 1) 1 (stV ⟨old, M, am, cm⟩) (wr.alloc (.cells #[.int .i64 old, .slice am M.length cm] 80)) := row_src (X := #[.int .i64 old, .slice am M.length cm]) Tryz.underlying27 rfl (by simp [Value.oneCell']) (heap_alloc_new wr _)
       have hownx := ownsRow_upd HQ.out.own hUb (fun _ _ h => h)
       have hq7 := HQ.out.q1 4 (fun _ _ _ => rfl)
       have hLn := HLN.out
       obtain ⟨hb1, hb2⟩ := HJN.out
       obtain ⟨i0, hi, hz0, hz1, hz2⟩ := info_parts4 infoSettledZ
       have HT8 : Hid (listS stS N1 z1 = ((L ++ [(⟨old, M, am, cm⟩ : St)]).map stC ++ (listS stS (N1 - (j + 1)) sq).1, (listS stS (N1 - (j + 1)) sq).2)) := Lib.hid (by rw [HTj.out, HS1.out, HMK.out.1, HTT.out]; simp [stC])
       have HVM := Lib.hid (And.intro hvm hbm)
       clear hvm hbm hUm HTT HMK HS1 HTj HI HU6
       clear HK
       go_wp2_with first
        | refine wpList_load_row rfl 80 (.tmp 6) rfl BM #[.int .i64 old, .slice am M.length cm] 80 (0, 0) _ rfl hrm Tryz.underlying80 rfl infoSt2 ?_
        | refine wpList_slice_gen rfl 27 80 2 (.tmp 64) rfl Tryz.underlying27 i0 (.agg #[.int .i64 0, .slice none 0 0]) hi hz0 hz1 (by decide) (by decide) (.agg #[.int .i64 old, .slice am M.length cm]) #[.int .i64 old, .slice am M.length cm] rfl (by kernel_rfl) ?_
        | (at_builtin; refine wpList_app _ rfl (.tmp 63) (.tmp 65) 27 27 rfl 80 i0 (.agg #[.int .i64 0, .slice none 0 0]) 2 32 Tryz.underlying27 hi hz0 hz1 hz2 rfl ar L.length cr (L.flatMap stV) rfl hownx (.slice (some ⟨wr.heap.size, 0, none⟩) 1 1) 1 (stV ⟨old, M, am, cm⟩) rfl hsrc ?_ ?_ ?_)
       ·unfold maxLen; omega
       ·omega
       clear hi hz0 hz1 hz2
       intro a8 c8 w8 hown8 hg8 hat8 hnil8
       obtain ⟨hcb, hq8, hf8⟩ := HQ.out.add st_stays 4 (fun _ _ _ => rfl) (fun _ _ _ _ _ _ => rfl) ⟨old, M, am, cm⟩ HVM.out.1 HVM.out.2 _ hown8 hg8 (by first | exact hat8 | simpa using hat8)
       have HM8 := Lib.hid hcb
       clear hown8 hg8 hat8 hnil8 hcb hownx hsrc hUb hq7 HQ hLn hrm HVM
       go_wp2_with fail
       go_roundw
       case rel => exact ⟨j + 1, L ++ [(⟨old, M, am, cm⟩ : St)], a8, c8, sq, by first | rfl | go_num, HJN, HT8, HM8⟩
       case measure => simp [intOf]; omega
      case pos =>
       have hI : decide ((q : Int) < n6) = true := by rw [decide_eq_true_eq]; exact hlt
       by_cases he : sq.e = 0
       case neg =>
        have hbe : (sq.e == 0) = false := by simpa using he
        have HTT : Hid (Q6 = (M, sq)) := Lib.hid (by rw [HLB6.out.2.1, HTq.out, listS_stop _ _ _ he]; simp)
        clear hlt he
        clear HTq
        have hUm := HU6.out.1.next HK.out.upd (fun i hi e => by have := HU6.out.2; omega)
        have HQ := Lib.hid (HI.out.read st_stays HK.out.rd hUm)
        have hvm : StIn wr ⟨old, M, am, cm⟩ := ⟨Vw.of_own HK.out.own, fun x hx => by have h1 := HMK.out.2.1 x (by rw [HTT.out]; exact hx); have h2 := HMK.out.2.2; unfold maxLen; omega, fun x hx => by have h1 := HMK.out.2.1 x (by rw [HTT.out]; exact hx); have h2 := HMK.out.2.2; unfold maxLen; omega⟩
        have hbm : ∀ g, blk am = some g → w3.heap.size ≤ g ∧ g < wr.heap.size ∧ blk ar ≠ some g := fun g hg => by
         have h1 := HK.out.fr g hg
         have h2 := (HK.out.own.lt g ((own_blk _ _ _).trans hg)).2
         have h3 := HI.out.upd.size
         have h4 := HU6.out.2
         exact ⟨by omega, h2, fun e => by have := (HI.out.own.lt g ((own_blk _ _ _).trans e)).2; omega⟩
        have hrm := HK.out.var
        have hUb := Upd.alloc (fun _ => False) wr (.cells #[.int .i64 old, .slice am M.length cm] 80)
        have hsrc : Src Tryz.prog 2 27 (.slice (some ⟨wr.heap.size, 0, none⟩) 1 1) 1 (stV ⟨old, M, am, cm⟩) (wr.alloc (.cells #[.int .i64 old, .slice am M.length cm] 80)) := row_src (X := #[.int .i64 old, .slice am M.length cm]) Tryz.underlying27 rfl (by simp [Value.oneCell']) (heap_alloc_new wr _)
        have hownx := ownsRow_upd HQ.out.own hUb (fun _ _ h => h)
        have hq7 := HQ.out.q1 4 (fun _ _ _ => rfl)
        have hLn := HLN.out
        obtain ⟨hb1, hb2⟩ := HJN.out
        obtain ⟨i0, hi, hz0, hz1, hz2⟩ := info_parts4 infoSettledZ
        have HT8 : Hid (listS stS N1 z1 = ((L ++ [(⟨old, M, am, cm⟩ : St)]).map stC ++ (listS stS (N1 - (j + 1)) sq).1, (listS stS (N1 - (j + 1)) sq).2)) := Lib.hid (by rw [HTj.out, HS1.out, HMK.out.1, HTT.out]; simp [stC])
        have HVM := Lib.hid (And.intro hvm hbm)
        clear hvm hbm hUm HTT HMK HS1 HTj HI HU6
        clear HK
        go_wp2_with first
         | refine wpList_load_row rfl 80 (.tmp 6) rfl BM #[.int .i64 old, .slice am M.length cm] 80 (0, 0) _ rfl hrm Tryz.underlying80 rfl infoSt2 ?_
         | refine wpList_slice_gen rfl 27 80 2 (.tmp 64) rfl Tryz.underlying27 i0 (.agg #[.int .i64 0, .slice none 0 0]) hi hz0 hz1 (by decide) (by decide) (.agg #[.int .i64 old, .slice am M.length cm]) #[.int .i64 old, .slice am M.length cm] rfl (by kernel_rfl) ?_
         | (at_builtin; refine wpList_app _ rfl (.tmp 63) (.tmp 65) 27 27 rfl 80 i0 (.agg #[.int .i64 0, .slice none 0 0]) 2 32 Tryz.underlying27 hi hz0 hz1 hz2 rfl ar L.length cr (L.flatMap stV) rfl hownx (.slice (some ⟨wr.heap.size, 0, none⟩) 1 1) 1 (stV ⟨old, M, am, cm⟩) rfl hsrc ?_ ?_ ?_)
        ·unfold maxLen; omega
        ·omega
        clear hi hz0 hz1 hz2
        intro a8 c8 w8 hown8 hg8 hat8 hnil8
        obtain ⟨hcb, hq8, hf8⟩ := HQ.out.add st_stays 4 (fun _ _ _ => rfl) (fun _ _ _ _ _ _ => rfl) ⟨old, M, am, cm⟩ HVM.out.1 HVM.out.2 _ hown8 hg8 (by first | exact hat8 | simpa using hat8)
        have HM8 := Lib.hid hcb
        clear hown8 hg8 hat8 hnil8 hcb hownx hsrc hUb hq7 HQ hLn hrm HVM
        go_wp2_with fail
        go_roundw
        case rel => exact ⟨j + 1, L ++ [(⟨old, M, am, cm⟩ : St)], a8, c8, sq, by first | rfl | go_num, HJN, HT8, HM8⟩
        case measure => simp [intOf]; omega
       case pos =>
        rw [he] at hq
        have HS1i : Hid (listS flS (N6 - q) sq = ((flS sq).1 :: (listS flS (N6 - (q + 1)) (flS sq).2).1, (listS flS (N6 - (q + 1)) (flS sq).2).2)) := Lib.hid (by
         have := HJq.out; have := HLB6.out.2.2
         rw [show N6 - q = (N6 - (q + 1)) + 1 from by omega, listS_go _ _ _ he])
        have HJNi : Hid (q + 1 ≤ N6 ∧ (N6 : Int) ≤ 4294967296) := Lib.hid (by have := HJq.out; have := HLB6.out.2.2; omega)
        have HLNi : Hid (M.length ≤ 100000001) := Lib.hid (by
         have h1 := (listS_len fl_eats N6 z6).1
         rw [HTq.out] at h1
         have := HSL6.out
         simp only [List.length_append] at h1
         omega)
        clear he
        obtain ⟨t0, ht0⟩ : ∃ t, t = (textS sq).1 := ⟨_, rfl⟩
        obtain ⟨s6, hs6⟩ : ∃ t, t = (textS sq).2 := ⟨_, rfl⟩
        have HT0 := Lib.hid (And.intro ht0 hs6)
        obtain ⟨t1, ht1⟩ : ∃ t, t = (boolS s6).1 := ⟨_, rfl⟩
        obtain ⟨s7, hs7⟩ : ∃ t, t = (boolS s6).2 := ⟨_, rfl⟩
        have HT1 := Lib.hid (And.intro ht1 hs7)
        obtain ⟨t2, ht2⟩ : ∃ t, t = (textS s7).1 := ⟨_, rfl⟩
        obtain ⟨s8, hs8⟩ : ∃ t, t = (textS s7).2 := ⟨_, rfl⟩
        have HT2 := Lib.hid (And.intro ht2 hs8)
        have HF : Hid (flS sq = (⟨t0, t1, t2⟩, s8)) := Lib.hid (by rw [ht2, hs8, ht1, hs7, ht0, hs6]; rfl)
        clear ht0 hs6 ht1 hs7 ht2 hs8
        go_upto_region 11 with (fail)
        clear hq
        have HQ := Lib.hid (HK.out.q1 1 (fun _ _ _ => rfl))
        refine wp_region_plan_last [([0, 1, 2, 4, 6], 3), ([], 5), ([], 7), ([8], 9), ([], 10), ([11], 12)] [] (fun w' => w'.cell? ⟨BM, 1, none⟩ = some (.slice am M.length cm)) (by kernel_rfl) (by kernel_rfl) HQ.out ?_
        iterate 5
         refine plan_take (v := ?_) rfl rfl (fun w' hS => ?_) ?_
         rotate_left
         ·skip
          go_simp; try with_reducible rfl
         simp only [putL]
        have HN0 := Lib.hid (HK.out.same plain_stays (Upd.drew _ _))
        clear HQ
        refine plan_act rfl (fun KK hKK => ?_)
        have hc := rftext_any br F sq _ HN0.out.rd
        rw [← HT0.out.1, ← HT0.out.2] at hc
        go_wp2_with fail
        refine hc.mono ?_
        unfold RfRead
        rintro e u0 ⟨rfl, hR, hU⟩
        have HN1 := Lib.hid (HN0.out.read plain_stays hR hU)
        have HQ := Lib.hid (HN1.out.q1 1 (fun _ _ _ => rfl))
        clear hR hU hc HN0
        go_wp2_with fail
        refine hKK.out _ _ (.inr HQ.out) ?_
        clear HQ
        try simp only [putL]
        refine plan_act rfl (fun KK hKK => ?_)
        have hc := rfbool_any br F s6 _ HN1.out.rd
        rw [← HT1.out.1, ← HT1.out.2] at hc
        go_wp2_with fail
        refine hc.mono ?_
        unfold RfRead
        rintro e u1 ⟨rfl, hR, hU⟩
        have HN2 := Lib.hid (HN1.out.read plain_stays hR hU)
        have HQ := Lib.hid (HN2.out.q1 1 (fun _ _ _ => rfl))
        clear hR hU hc HN1
        go_wp2_with fail
        refine hKK.out _ _ (.inr HQ.out) ?_
        clear HQ
        try simp only [putL]
        refine plan_act rfl (fun KK hKK => ?_)
        have hc := rftext_any br F s7 _ HN2.out.rd
        rw [← HT2.out.1, ← HT2.out.2] at hc
        go_wp2_with fail
        refine hc.mono ?_
        unfold RfRead
        rintro e u2 ⟨rfl, hR, hU⟩
        have HN3 := Lib.hid (HN2.out.read plain_stays hR hU)
        have HQ := Lib.hid (HN3.out.q1 1 (fun _ _ _ => rfl))
        clear hR hU hc HN2
        go_wp2_with fail
        refine hKK.out _ _ (.inr HQ.out) ?_
        clear HQ
        try simp only [putL]
        iterate 1
         refine plan_take (v := ?_) rfl rfl (fun w' hS => ?_) ?_
         rotate_left
         ·skip
          go_simp; try with_reducible rfl
         simp only [putL]
        refine plan_act rfl (fun KK hKK => ?_)
        obtain ⟨i0, hi, hz0, hz1, hz2⟩ := info_parts4 infoFileZ
        refine wpList_slice_gen rfl 78 103 3 (.tmp 58) rfl Tryz.underlying78 i0 (.agg #[.string ⟨#[]⟩, .bool false, .string ⟨#[]⟩]) hi hz0 hz1 (by decide) (by decide) (.agg #[.string (str t0), .bool t1, .string (str t2)]) #[.string (str t0), .bool t1, .string (str t2)] rfl (by kernel_rfl) ?_
        have hUb := Upd.alloc (fun _ => False) u2 (.cells #[.string (str t0), .bool t1, .string (str t2)] 103)
        have hsrc : Src Tryz.prog 3 78 (.slice (some ⟨u2.heap.size, 0, none⟩) 1 1) 1 (flV ⟨t0, t1, t2⟩) (u2.alloc (.cells #[.string (str t0), .bool t1, .string (str t2)] 103)) := row_src (X := #[.string (str t0), .bool t1, .string (str t2)]) Tryz.underlying78 rfl (by simp [Value.oneCell']) (heap_alloc_new u2 _)
        have hownx := ownsRow_upd HN3.out.own hUb (fun _ _ h => h)
        have HS7 := HN3.out.same plain_stays hUb
        have hq7 := HS7.q1 1 (fun _ _ _ => rfl)
        have hLn := HLNi.out
        go_wp2_with fail
        refine hKK.out _ _ (.inr hq7) ?_
        refine plan_act rfl (fun KK hKK => ?_)
        try simp only [putL]
        refine wpList_app _ rfl (.tmp 51) (.tmp 59) 78 78 rfl 103 i0 (.agg #[.string ⟨#[]⟩, .bool false, .string ⟨#[]⟩]) 3 40 Tryz.underlying78 hi hz0 hz1 hz2 rfl am M.length cm (M.flatMap flV) rfl hownx (.slice (some ⟨u2.heap.size, 0, none⟩) 1 1) 1 (flV ⟨t0, t1, t2⟩) rfl hsrc ?_ ?_ ?_
        ·unfold maxLen; omega
        ·omega
        clear hi hz0 hz1 hz2
        intro a8 c8 w8 hown8 hg8 hat8 hnil8
        obtain ⟨hcb, hq8, hf8⟩ := HN3.out.add plain_stays 1 (fun _ _ _ => rfl) (fun _ _ _ _ _ _ => rfl) ⟨t0, t1, t2⟩ trivial (fun g hg => by cases hg) _ hown8 hg8 hat8
        have HM8 := Lib.hid hcb
        clear hown8 hg8 hat8 hnil8 hcb hownx hsrc hUb hq7 HS7 HN3 hLn
        go_wp2_with fail
        refine hKK.out _ _ (.inr hq8) ?_
        try simp only [putL]
        iterate 1
         refine plan_take (v := ?_) rfl rfl (fun w' hS => ?_) ?_
         rotate_left
         ·skip
          go_simp; try with_reducible rfl
         simp only [putL]
        refine plan_act rfl (fun KK hKK => ?_)
        go_wp2_with fail
        refine hKK.out _ _ (.inl rfl) ?_
        refine plan_end ?_
        clear hq8 hf8
        have HT8 : Hid (listS flS N6 z6 = ((M ++ [⟨t0, t1, t2⟩]) ++ (listS flS (N6 - (q + 1)) s8).1, (listS flS (N6 - (q + 1)) s8).2)) := Lib.hid (by rw [HTq.out, HS1i.out, HF.out]; simp)
        clear HTq HS1i HK HF HT0 HT1 HT2
        obtain ⟨hb1, hb2⟩ := HJNi.out
        go_wp2_with fail
        go_roundw
        case rel => exact ⟨q + 1, M ++ [⟨t0, t1, t2⟩], a8, c8, s8, by first | rfl | go_num, HJNi, HT8, by have := HM8.out; exact Lib.hid (by simpa using this)⟩
        case measure => simp [intOf]; omega
 case rest =>
 obtain ⟨x1, a1, c1, HXX1, HQ1⟩ := hcut
 clear HST HLB1 HSL
 have HV1 : Hid (Vw wc a1 x1.length c1 2 (x1.flatMap stV) ∧ (∀ g, blk a1 = some g → BX < g ∧ g < wc.heap.size)) := Lib.hid ⟨Vw.of_own HQ1.out.own, fun g hg => ⟨by have := HQ1.out.fr g hg; have := HQ1.out.n3; omega, (HQ1.out.own.lt g ((own_blk _ _ _).trans hg)).2⟩⟩
 have hUq := HQ1.out.upd
 have HX : Hid (Rf wc br F q1.2 ∧ wc.heap[B2]? = some (.cells (#[.bool false, .bool false, .int .i64 0, .int .i64 0, .slice none 0 0, .int .i64 0, .slice none 0 0]) 30) ∧ wc.heap[BX]? = some (.cells (#[.bool true, .bool re, .int .i64 src, .int .i64 dst, .slice a1 x1.length c1, .int .i64 com, .slice none 0 0]) 30) ∧ Upd (fun k => k = br) w wc) :=
  Lib.hid ⟨HQ1.out.rd, (hUq.block B2 (lt_of_heap HP.out.1) (by have := HN.out; have := HQ1.out.n5; omega)).trans HP.out.1, HQ1.out.var, HP.out.2.next hUq (fun i hi e => by have := HN.out; have := HBX.out; omega)⟩
 have HE1 : Hid (∀ x ∈ x1, StIn wc x ∧ ∀ g, stBl x = some g → BX < g ∧ g < wc.heap.size) := Lib.hid (fun x hx => ⟨(HQ1.out.ind x hx).1, fun g hg => ⟨by have := ((HQ1.out.ind x hx).2 g hg).1; have := HQ1.out.n3; omega, ((HQ1.out.ind x hx).2 g hg).2.1⟩⟩)
 clear hUq HQ1 HP
 have hc := rfint_any br F q1.2 wc HX.out.1
 have hib := intV_bd q1.2
 have htl := takeS_len 4 q1.2
 have hQ1 := HM.out.2
 generalize intV q1.2 = n2 at *
 generalize (takeS 4 q1.2).2 = z2 at *
 obtain ⟨N2, hN2⟩ : ∃ N, N = n2.toNat := ⟨_, rfl⟩
 rw [← hN2] at hQ1
 have HLB2 : Hid ((N2 : Int) ≤ 4294967296 ∧ q2 = listS clS N2 z2 ∧ N2 = n2.toNat) := Lib.hid ⟨by omega, hQ1, hN2⟩
 have HSL : Hid (z2.l.length ≤ 100000000) := Lib.hid (by have := HL.out; omega)
 clear hQ1 hN2 hib htl
 go_wp2_with fail
 refine hc.mono ?_
 unfold RfRead
 rintro e w4 ⟨rfl, hR, hU⟩
 have HV1 : Hid (Vw w4 a1 x1.length c1 2 (x1.flatMap stV) ∧ (∀ g, blk a1 = some g → BX < g ∧ g < w4.heap.size)) := Lib.hid ⟨HV1.out.1.upd hU (fun g hg e => by have := HV1.out.2 g hg; have := HN.out; have := HBX.out; omega), fun g hg => ⟨(HV1.out.2 g hg).1, Nat.lt_of_lt_of_le (HV1.out.2 g hg).2 (hU).size⟩⟩
 have HE1 : Hid (∀ x ∈ x1, StIn w4 x ∧ ∀ g, stBl x = some g → BX < g ∧ g < w4.heap.size) := Lib.hid (fun x hx => ⟨st_stays _ _ _ x (HE1.out x hx).1 hU (fun g hg e => by have := (HE1.out x hx).2 g hg; have := HN.out; have := HBX.out; omega), fun g hg => ⟨((HE1.out x hx).2 g hg).1, Nat.lt_of_lt_of_le ((HE1.out x hx).2 g hg).2 (hU).size⟩⟩)
 have hb2 := (hU.block B2 (lt_of_heap HX.out.2.1) (by have := HN.out; omega)).trans HX.out.2.1
 have hbx := (hU.block BX (lt_of_heap HX.out.2.2.1) (by have := HN.out; have := HBX.out; omega)).trans HX.out.2.2.1
 have HP := Lib.hid (And.intro hb2 (HX.out.2.2.2.trans hU))
 have hst : Qh clV 3 100 (fun _ => none) (fun _ _ => True) 30 (fun a n c => #[.bool true, .bool re, .int .i64 src, .int .i64 dst, .slice a1 x1.length c1, .int .i64 com, .slice a n c]) br BX F w4 z2 [] none 0 w4 :=
  ⟨hR, hbx, World.ownsRow_nil _ _ _ _, (fun g h => by cases h), (fun x h => by cases h), Upd.refl _ _, by have := HN.out; have := HBX.out; have := lt_of_heap hbx; omega, lt_of_heap hbx, by have := HN.out; have := HBX.out; omega, fun g hg => by have h := HN.out; have h2 := h.2.2.2 g hg; have := HBX.out; have := lt_of_heap hbx; omega⟩
 have HST := Lib.hid hst
 clear hst hR hU hb2 hbx hc HX
 go_upto_block 4 with (fail)
 go_cut [] (fun wx => ∃ a2 c2, Hid (Qh clV 3 100 (fun _ => none) (fun _ _ => True) 30 (fun a n c => #[.bool true, .bool re, .int .i64 src, .int .i64 dst, .slice a1 x1.length c1, .int .i64 com, .slice a n c]) br BX F w4 q2.2 q2.1 a2 c2 wx))
 case first =>
  go_wp2_with fail
  go_loopw [9] (fun i wr => ∃ (j : Nat) (L : List Cl) (ar : Option Addr) (cr : Nat) (sj : RS), i = .int .i64 (j : Int) ∧ Hid (j ≤ N2 ∧ (N2 : Int) ≤ 4294967296) ∧ Hid (listS clS N2 z2 = (L ++ (listS clS (N2 - j) sj).1, (listS clS (N2 - j) sj).2)) ∧ Hid (Qh clV 3 100 (fun _ => none) (fun _ _ => True) 30 (fun a n c => #[.bool true, .bool re, .int .i64 src, .int .i64 dst, .slice a1 x1.length c1, .int .i64 com, .slice a n c]) br BX F w4 sj L ar cr wr)) (fun i _ => N2 - (intOf i).toNat)
  case atStart => exact ⟨0, [], none, 0, z2, rfl, Lib.hid ⟨Nat.zero_le _, HLB2.out.1⟩, Lib.hid rfl, HST⟩
  case round =>
   clear HST
   obtain ⟨j, L, ar, cr, sj, rfl, HJj, HTj, HI⟩ := hrel
   have hq := HI.out.rd.err
   by_cases hlt : (j : Int) < n2
   case neg =>
    have hI : decide ((j : Int) < n2) = false := by rw [decide_eq_false_iff_not]; exact hlt
    have HTT : Hid (q2 = (L, sj)) := Lib.hid (by rw [HLB2.out.2.1, HTj.out, show N2 - j = 0 from by have := HJj.out; have := HLB2.out.2.2; omega]; simp [listS])
    clear hlt hq
    go_wp2_with fail
    go_meet
    case rel => exact ⟨ar, cr, by rw [HTT.out]; exact HI⟩
   case pos =>
    have hI : decide ((j : Int) < n2) = true := by rw [decide_eq_true_eq]; exact hlt
    by_cases he : sj.e = 0
    case neg =>
     have hbe : (sj.e == 0) = false := by simpa using he
     have HTT : Hid (q2 = (L, sj)) := Lib.hid (by rw [HLB2.out.2.1, HTj.out, listS_stop _ _ _ he]; simp)
     clear hlt he
     go_wp2_with fail
     go_meet
     case rel => exact ⟨ar, cr, by rw [HTT.out]; exact HI⟩
    case pos =>
     rw [he] at hq
     have HS1 : Hid (listS clS (N2 - j) sj = ((clS sj).1 :: (listS clS (N2 - (j + 1)) (clS sj).2).1, (listS clS (N2 - (j + 1)) (clS sj).2).2)) := Lib.hid (by
      have := HJj.out; have := HLB2.out.2.2
      rw [show N2 - j = (N2 - (j + 1)) + 1 from by omega, listS_go _ _ _ he])
     have HJN : Hid (j + 1 ≤ N2 ∧ (N2 : Int) ≤ 4294967296) := Lib.hid (by have := HJj.out; have := HLB2.out.2.2; omega)
     have HLN : Hid (L.length ≤ 100000001) := Lib.hid (by
      have h1 := (listS_len cl_eats N2 z2).1
      rw [HTj.out] at h1
      have := HSL.out
      simp only [List.length_append] at h1
      omega)
     clear he
     obtain ⟨t0, ht0⟩ : ∃ t, t = (textS sj).1 := ⟨_, rfl⟩
     obtain ⟨s6, hs6⟩ : ∃ t, t = (textS sj).2 := ⟨_, rfl⟩
     have HT0 := Lib.hid (And.intro ht0 hs6)
     obtain ⟨t1, ht1⟩ : ∃ t, t = intV s6 := ⟨_, rfl⟩
     obtain ⟨s7, hs7⟩ : ∃ t, t = (takeS 4 s6).2 := ⟨_, rfl⟩
     have HT1 := Lib.hid (And.intro ht1 hs7)
     obtain ⟨t2, ht2⟩ : ∃ t, t = (textS s7).1 := ⟨_, rfl⟩
     obtain ⟨s8, hs8⟩ : ∃ t, t = (textS s7).2 := ⟨_, rfl⟩
     have HT2 := Lib.hid (And.intro ht2 hs8)
     have HF : Hid (clS sj = (⟨t0, t1, t2⟩, s8)) := Lib.hid (by rw [ht2, hs8, ht1, hs7, ht0, hs6]; rfl)
     clear ht0 hs6 ht1 hs7 ht2 hs8
     go_upto_region 17 with (fail)
     clear hq
     have HQ := Lib.hid (HI.out.q1 6 (fun _ _ _ => rfl))
     refine wp_region_plan_last [([0, 1, 2, 4, 6], 3), ([], 5), ([], 7), ([8], 9), ([], 10), ([11], 12)] [] (fun w' => w'.cell? ⟨BX, 6, none⟩ = some (.slice ar L.length cr)) (by kernel_rfl) (by kernel_rfl) HQ.out ?_
     iterate 5
      refine plan_take (v := ?_) rfl rfl (fun w' hS => ?_) ?_
      rotate_left
      ·skip
       go_simp; try with_reducible rfl
      simp only [putL]
     have HN0 := Lib.hid (HI.out.same plain_stays (Upd.drew _ _))
     clear HQ
     refine plan_act rfl (fun KK hKK => ?_)
     have hc := rftext_any br F sj _ HN0.out.rd
     rw [← HT0.out.1, ← HT0.out.2] at hc
     go_wp2_with fail
     refine hc.mono ?_
     unfold RfRead
     rintro e u0 ⟨rfl, hR, hU⟩
     have HN1 := Lib.hid (HN0.out.read plain_stays hR hU)
     have HQ := Lib.hid (HN1.out.q1 6 (fun _ _ _ => rfl))
     clear hR hU hc HN0
     go_wp2_with fail
     refine hKK.out _ _ (.inr HQ.out) ?_
     clear HQ
     try simp only [putL]
     refine plan_act rfl (fun KK hKK => ?_)
     have hc := rfint_any br F s6 _ HN1.out.rd
     rw [← HT1.out.1, ← HT1.out.2] at hc
     go_wp2_with fail
     refine hc.mono ?_
     unfold RfRead
     rintro e u1 ⟨rfl, hR, hU⟩
     have HN2 := Lib.hid (HN1.out.read plain_stays hR hU)
     have HQ := Lib.hid (HN2.out.q1 6 (fun _ _ _ => rfl))
     clear hR hU hc HN1
     go_wp2_with fail
     refine hKK.out _ _ (.inr HQ.out) ?_
     clear HQ
     try simp only [putL]
     refine plan_act rfl (fun KK hKK => ?_)
     have hc := rftext_any br F s7 _ HN2.out.rd
     rw [← HT2.out.1, ← HT2.out.2] at hc
     go_wp2_with fail
     refine hc.mono ?_
     unfold RfRead
     rintro e u2 ⟨rfl, hR, hU⟩
     have HN3 := Lib.hid (HN2.out.read plain_stays hR hU)
     have HQ := Lib.hid (HN3.out.q1 6 (fun _ _ _ => rfl))
     clear hR hU hc HN2
     go_wp2_with fail
     refine hKK.out _ _ (.inr HQ.out) ?_
     clear HQ
     try simp only [putL]
     iterate 1
      refine plan_take (v := ?_) rfl rfl (fun w' hS => ?_) ?_
      rotate_left
      ·skip
       go_simp; try with_reducible rfl
      simp only [putL]
     refine plan_act rfl (fun KK hKK => ?_)
     obtain ⟨i0, hi, hz0, hz1, hz2⟩ := info_parts4 infoClashZ
     refine wpList_slice_gen rfl 28 100 3 (.tmp 90) rfl Tryz.underlying28 i0 (.agg #[.string ⟨#[]⟩, .int .i64 0, .string ⟨#[]⟩]) hi hz0 hz1 (by decide) (by decide) (.agg #[.string (str t0), .int .i64 t1, .string (str t2)]) #[.string (str t0), .int .i64 t1, .string (str t2)] rfl (by kernel_rfl) ?_
     have hUb := Upd.alloc (fun _ => False) u2 (.cells #[.string (str t0), .int .i64 t1, .string (str t2)] 100)
     have hsrc : Src Tryz.prog 3 28 (.slice (some ⟨u2.heap.size, 0, none⟩) 1 1) 1 (clV ⟨t0, t1, t2⟩) (u2.alloc (.cells #[.string (str t0), .int .i64 t1, .string (str t2)] 100)) := row_src (X := #[.string (str t0), .int .i64 t1, .string (str t2)]) Tryz.underlying28 rfl (by simp [Value.oneCell']) (heap_alloc_new u2 _)
     have hownx := ownsRow_upd HN3.out.own hUb (fun _ _ h => h)
     have HS7 := HN3.out.same plain_stays hUb
     have hq7 := HS7.q1 6 (fun _ _ _ => rfl)
     have hLn := HLN.out
     go_wp2_with fail
     refine hKK.out _ _ (.inr hq7) ?_
     refine plan_act rfl (fun KK hKK => ?_)
     try simp only [putL]
     refine wpList_app _ rfl (.tmp 83) (.tmp 91) 28 28 rfl 100 i0 (.agg #[.string ⟨#[]⟩, .int .i64 0, .string ⟨#[]⟩]) 3 40 Tryz.underlying28 hi hz0 hz1 hz2 rfl ar L.length cr (L.flatMap clV) rfl hownx (.slice (some ⟨u2.heap.size, 0, none⟩) 1 1) 1 (clV ⟨t0, t1, t2⟩) rfl hsrc ?_ ?_ ?_
     ·unfold maxLen; omega
     ·omega
     clear hi hz0 hz1 hz2
     intro a8 c8 w8 hown8 hg8 hat8 hnil8
     obtain ⟨hcb, hq8, hf8⟩ := HN3.out.add plain_stays 6 (fun _ _ _ => rfl) (fun _ _ _ _ _ _ => rfl) ⟨t0, t1, t2⟩ trivial (fun g hg => by cases hg) _ hown8 hg8 hat8
     have HM8 := Lib.hid hcb
     clear hown8 hg8 hat8 hnil8 hcb hownx hsrc hUb hq7 HS7 HN3 hLn
     go_wp2_with fail
     refine hKK.out _ _ (.inr hq8) ?_
     try simp only [putL]
     iterate 1
      refine plan_take (v := ?_) rfl rfl (fun w' hS => ?_) ?_
      rotate_left
      ·skip
       go_simp; try with_reducible rfl
      simp only [putL]
     refine plan_act rfl (fun KK hKK => ?_)
     go_wp2_with fail
     refine hKK.out _ _ (.inl rfl) ?_
     refine plan_end ?_
     clear hq8 hf8
     have HT8 : Hid (listS clS N2 z2 = ((L ++ [⟨t0, t1, t2⟩]) ++ (listS clS (N2 - (j + 1)) s8).1, (listS clS (N2 - (j + 1)) s8).2)) := Lib.hid (by rw [HTj.out, HS1.out, HF.out]; simp)
     clear HTj HS1 HI HF HT0 HT1 HT2
     obtain ⟨hb1, hb2⟩ := HJN.out
     go_wp2_with fail
     go_roundw
     case rel => exact ⟨j + 1, L ++ [⟨t0, t1, t2⟩], a8, c8, s8, by first | rfl | go_num, HJN, HT8, by have := HM8.out; exact Lib.hid (by simpa using this)⟩
     case measure => simp [intOf]; omega
 case rest =>
 obtain ⟨a2, c2, HQ2⟩ := hcut
 clear HST HLB2 HSL
 have HV2 : Hid (Vw wc a2 q2.1.length c2 3 (q2.1.flatMap clV) ∧ (∀ g, blk a2 = some g → BX < g ∧ g < wc.heap.size)) := Lib.hid ⟨Vw.of_own HQ2.out.own, fun g hg => ⟨by have := HQ2.out.fr g hg; have := HQ2.out.n3; omega, (HQ2.out.own.lt g ((own_blk _ _ _).trans hg)).2⟩⟩
 have hUq := HQ2.out.upd
 have HX : Hid (Rf wc br F q2.2 ∧ wc.heap[B2]? = some (.cells (#[.bool false, .bool false, .int .i64 0, .int .i64 0, .slice none 0 0, .int .i64 0, .slice none 0 0]) 30) ∧ wc.heap[BX]? = some (.cells (#[.bool true, .bool re, .int .i64 src, .int .i64 dst, .slice a1 x1.length c1, .int .i64 com, .slice a2 q2.1.length c2]) 30) ∧ Upd (fun k => k = br) w wc) :=
  Lib.hid ⟨HQ2.out.rd, (hUq.block B2 (lt_of_heap HP.out.1) (by have := HN.out; have := HQ2.out.n5; omega)).trans HP.out.1, HQ2.out.var, HP.out.2.next hUq (fun i hi e => by have := HN.out; have := HBX.out; omega)⟩
 have HV1 : Hid (Vw wc a1 x1.length c1 2 (x1.flatMap stV) ∧ (∀ g, blk a1 = some g → BX < g ∧ g < wc.heap.size)) := Lib.hid ⟨HV1.out.1.upd hUq (fun g hg e => by have := HV1.out.2 g hg; have := HN.out; have := HBX.out; omega), fun g hg => ⟨(HV1.out.2 g hg).1, Nat.lt_of_lt_of_le (HV1.out.2 g hg).2 (hUq).size⟩⟩
 have HE1 : Hid (∀ x ∈ x1, StIn wc x ∧ ∀ g, stBl x = some g → BX < g ∧ g < wc.heap.size) := Lib.hid (fun x hx => ⟨st_stays _ _ _ x (HE1.out x hx).1 hUq (fun g hg e => by have := (HE1.out x hx).2 g hg; have := HN.out; have := HBX.out; omega), fun g hg => ⟨((HE1.out x hx).2 g hg).1, Nat.lt_of_lt_of_le ((HE1.out x hx).2 g hg).2 (hUq).size⟩⟩)
 clear hUq HQ2 HP
 have hvar : wc.heap[BX]? = some (.cells (wtA ⟨true, re, src, dst, a1, c1, x1, com, a2, c2, q2.1⟩) 30) := HX.out.2.2.1
 have hres := HX.out.2.1
 have hSS := HS.out
 have HSS := Lib.hid hSS
 clear HS hSS
 generalize hrt : (⟨true, re, src, dst, a1, c1, x1, com, a2, c2, q2.1⟩ : Wt) = rt at *
 have HRT := Lib.hid hrt
 clear hrt
 have hsz : (Tryz.prog.info? 30).map (·.size) = some (wtA rt).size := by rw [infoPd7]; rfl
 have h5 : (wtA rt).size = 7 := rfl
 have hone : (wtA rt).all (·.oneCell') = true := by simp [wtA, Value.oneCell']
 have HA5 := Lib.hid (And.intro hsz (And.intro h5 hone))
 generalize hAA : wtA rt = AA at *
 have HAA := Lib.hid hAA
 clear hsz h5 hone hAA
 have HUS := Lib.hid (Upd.setRow (S := fun k => k = B2) wc rfl AA)
 go_wp2_with first
  | refine wpList_load_row rfl 30 (.tmp 3) rfl BX AA 30 (0, 0) _ rfl hvar Tryz.underlying30 rfl HA5.out.1 ?_
  | refine wpList_store_row rfl 30 (.tmp 2) (.tmp 94) rfl B2 AA _ 30 rfl rfl hres HA5.out.1 (by rw [HA5.out.2.1]; rfl) HA5.out.2.2 ?_
 refine ret_row rfl B2 AA 30 (0, 0) _ rfl (setRow_heap _ _ _ AA _ _ hres) Tryz.underlying30 rfl HA5.out.1 rfl ?_
 have hU56 : Upd (fun q => q = B2) wc (wc.setRow B2 AA) := HUS.out
 have hn := HN.out
 have hbX := HBX.out
 have HV1 : Hid (Vw (wc.setRow B2 AA) a1 x1.length c1 2 (x1.flatMap stV) ∧ (∀ g, blk a1 = some g → BX < g ∧ g < (wc.setRow B2 AA).heap.size)) := Lib.hid ⟨HV1.out.1.upd hU56 (fun g hg e => by have := HV1.out.2 g hg; have := HN.out; have := HBX.out; omega), fun g hg => ⟨(HV1.out.2 g hg).1, Nat.lt_of_lt_of_le (HV1.out.2 g hg).2 (hU56).size⟩⟩
 have HE1 : Hid (∀ x ∈ x1, StIn (wc.setRow B2 AA) x ∧ ∀ g, stBl x = some g → BX < g ∧ g < (wc.setRow B2 AA).heap.size) := Lib.hid (fun x hx => ⟨st_stays _ _ _ x (HE1.out x hx).1 hU56 (fun g hg e => by have := (HE1.out x hx).2 g hg; have := HN.out; have := HBX.out; omega), fun g hg => ⟨((HE1.out x hx).2 g hg).1, Nat.lt_of_lt_of_le ((HE1.out x hx).2 g hg).2 (hU56).size⟩⟩)
 have HV2 : Hid (Vw (wc.setRow B2 AA) a2 q2.1.length c2 3 (q2.1.flatMap clV) ∧ (∀ g, blk a2 = some g → BX < g ∧ g < (wc.setRow B2 AA).heap.size)) := Lib.hid ⟨HV2.out.1.upd hU56 (fun g hg e => by have := HV2.out.2 g hg; have := HN.out; have := HBX.out; omega), fun g hg => ⟨(HV2.out.2 g hg).1, Nat.lt_of_lt_of_le (HV2.out.2 g hg).2 (hU56).size⟩⟩
 refine ⟨rt, by rw [HAA.out], by rw [← HRT.out], ?_, ?_, ?_, ?_, ?_⟩
 ·rw [HSS.out, ← HRT.out]
  unfold wtC
  rw [HXX1.out]
 ·rw [← HRT.out]
  exact ⟨HV1.out.1, fun m hm => (HE1.out m hm).1, HV2.out.1⟩
 ·rw [← HRT.out]
  exact ⟨fun g hg => by have := HV1.out.2 g hg; omega, fun m hm g hg => by have := (HE1.out m hm).2 g hg; omega, fun g hg => by have := HV2.out.2 g hg; omega⟩
 ·rw [HSS.out]
  exact HX.out.1.upd hU56 (by omega) (fun g hg => by have := hn.2.2.2 g hg; omega)
 ·exact HX.out.2.2.2.next hU56 (fun i hi e => by omega)
end Go.Proofs.YtccejkikphpnfaaGreatDoor
