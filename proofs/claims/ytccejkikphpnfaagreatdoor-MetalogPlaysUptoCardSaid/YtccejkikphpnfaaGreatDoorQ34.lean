
/- the document's reader of a root. -/
import Derived.Test.YtccejkikphpnfaaGreatDoorQ33
import Derived.Deep.CutBlock
namespace Go.Proofs.YtccejkikphpnfaaGreatDoor
set_option linter.unusedSimpArgs false
set_option linter.unusedVariables false
set_option maxRecDepth 100000
open Go.ChangeShapes Go.WideShapes Go.ChangeAt Go.RowKit
def GotRtR (w : World) (br : Nat) (F : Option Nat) (s' : RS) (v : RC) (e : Ending) (w' : World) : Prop :=
 ∃ r : Rt, e = .returned (.agg (rtA r)) ∧ rtC r = v ∧ RtIn w' r ∧ RtBl (fun g => w.heap.size ≤ g ∧ g < w'.heap.size) r ∧ Rf w' br F s' ∧ Upd (fun k => k = br) w w'
theorem Rf.lt {w : World} {br : Nat} {F : Option Nat} {s : RS} (h : Rf w br F s) : br < w.heap.size := by
 obtain ⟨a, c, l, p, e, hh, _⟩ := h.ex
 exact lt_of_heap hh
theorem key_ex (s : RS) : ∃ (k : List UInt8) (hk : k.length = 32) (s9 : RS), keyN 32 s = (k, s9) ∧ kyS s = (⟨k, hk⟩, s9) := by
 refine ⟨(keyS s).1, keyS_len s, (keyS s).2, ?_, ?_⟩
 ·unfold keyS; with_reducible rfl
 ·unfold kyS; with_reducible rfl
theorem infoMk2 : (Tryz.prog.info? 77).map (·.size) = some 2 := by kernel_rfl
set_option maxHeartbeats 32000000 in
theorem r21root_any (br : Nat) (F : Option Nat) (s : RS) (w : World) (hr : Rf w br F s) (hF : ∀ g, F = some g → g < w.heap.size) :
  Calls Tryz.prog 109 #[.pointer (some ⟨br, 0, none⟩)] w (GotRtR w br F (rootS s).2 (rootS s).1) := by
 have hU0 := Upd.alloc (fun _ => False) w (.cells #[.int .i64 0, .slice none 0 0, .slice none 0 0, .slice none 0 0, .int .i64 0] 26)
 have hb0 := heap_alloc_new w (.cells #[.int .i64 0, .slice none 0 0, .slice none 0 0, .slice none 0 0, .int .i64 0] 26)
 have hlt := hr.lt
 have hl := hr.len
 have hc := rfint_any br F s _ (hr.upd hU0 (fun h => h) (fun _ _ h => h))
 have HS : Hid (rootS s = (⟨intV s, (rS1 s).1, (rS2 s).1, (rS3 s).1, intV (rS3 s).2⟩, (takeS 4 (rS3 s).2).2)) := Lib.hid rfl
 have h1 : rS1 s = listS kyS (intV (takeS 4 s).2).toNat (takeS 4 (takeS 4 s).2).2 := rfl
 have h2 : rS2 s = listS mkS (intV (rS1 s).2).toNat (takeS 4 (rS1 s).2).2 := rfl
 have h3 : rS3 s = listS nmS (intV (rS2 s).2).toNat (takeS 4 (rS2 s).2).2 := rfl
 have l1 := takeS_len 4 s
 have l2 : (rS1 s).2.l.length ≤ (takeS 4 s).2.l.length := (some_goes ky_eats.toGoes).le _
 have l3 : (rS2 s).2.l.length ≤ (rS1 s).2.l.length := (some_goes mk_eats.toGoes).le _
 have l4 : (rS3 s).2.l.length ≤ (rS2 s).2.l.length := (some_goes nm_eats.toGoes).le _
 have l5 : ∀ x ∈ (rS3 s).1, x.name.length ≤ (rS2 s).2.l.length := nm_long _
 generalize rootS s = SS at *
 generalize intV s = p at *
 generalize (takeS 4 s).2 = s1 at *
 generalize rS1 s = q1 at *
 generalize rS2 s = q2 at *
 generalize rS3 s = q3 at *
 have HM := Lib.hid (And.intro h1 (And.intro h2 h3))
 have HL := Lib.hid (And.intro hl (And.intro l1 (And.intro l2 (And.intro l3 (And.intro l4 l5)))))
 have HU0 := Lib.hid (And.intro hU0 (And.intro hb0 (And.intro hlt hF)))
 clear hU0 hb0 hr hF h1 h2 h3 l1 l2 l3 l4 l5 hl hlt
 go_enter Tryz.func109, Tryz.ntmps109
 go_wp2_with fail
 refine hc.mono ?_
 unfold RfRead
 rintro e w1 ⟨rfl, hR, hU⟩
 obtain ⟨B2, hB2⟩ : ∃ B, B = w.heap.size := ⟨_, rfl⟩
 have hb2 := (hU.block w.heap.size (lt_of_heap HU0.out.2.1) (by have := HU0.out.2.2.1; omega)).trans HU0.out.2.1
 have hUw := (HU0.out.1.mono (T := fun k => k = br) (fun _ _ h => h.elim)).trans hU
 have hUx := Upd.alloc (fun _ => False) w1 (.cells #[.int .i64 p, .slice none 0 0, .slice none 0 0, .slice none 0 0, .int .i64 0] 26)
 have hbx := heap_alloc_new w1 (.cells #[.int .i64 p, .slice none 0 0, .slice none 0 0, .slice none 0 0, .int .i64 0] 26)
 have hx2 := (hUx.block _ (lt_of_heap hb2) (fun h => h)).trans hb2
 have HX := Lib.hid (And.intro (hR.upd hUx (fun h => h) (fun _ _ h => h)) (And.intro hx2 (And.intro hbx (hUw.trans (hUx.mono (T := fun k => k = br) (fun _ _ h => h.elim))))))
 have HN : Hid (B2 = w.heap.size ∧ br < B2 ∧ B2 < w1.heap.size ∧ (∀ g, F = some g → g < B2)) := Lib.hid ⟨hB2, by have := HU0.out.2.2.1; omega, by have := lt_of_heap hb2; omega, fun g hg => by rw [hB2]; exact HU0.out.2.2.2 g hg⟩
 rw [← hB2] at HX ⊢
 have HBX : Hid (w.heap.size < w1.heap.size) := Lib.hid (by have := HN.out; omega)
 clear hR hU hb2 hUw hUx hbx hx2 hB2 hc HU0
 go_upto_region 2 with (fail)
 generalize w1.alloc (.cells #[.int .i64 p, .slice none 0 0, .slice none 0 0, .slice none 0 0, .int .i64 0] 26) = y1 at *
 generalize w1.heap.size = BX at *
 have hc := rfint_any br F s1 y1 HX.out.1
 have hib := intV_bd s1
 have htl := takeS_len 4 s1
 have hQ1 := HM.out.1
 generalize intV s1 = n1 at *
 generalize (takeS 4 s1).2 = z1 at *
 obtain ⟨N1, hN1⟩ : ∃ N, N = n1.toNat := ⟨_, rfl⟩
 rw [← hN1] at hQ1
 have HLB1 : Hid ((N1 : Int) ≤ 4294967296 ∧ q1 = listS kyS N1 z1 ∧ N1 = n1.toNat) := Lib.hid ⟨by omega, hQ1, hN1⟩
 have HSL : Hid (z1.l.length ≤ 100000000) := Lib.hid (by have := HL.out; omega)
 clear hQ1 hN1 hib htl
 go_wp2_with fail
 refine hc.mono ?_
 unfold RfRead
 rintro e w2 ⟨rfl, hR, hU⟩
 have hb2 := (hU.block B2 (lt_of_heap HX.out.2.1) (by have := HN.out; omega)).trans HX.out.2.1
 have hbx := (hU.block BX (lt_of_heap HX.out.2.2.1) (by have := HN.out; omega)).trans HX.out.2.2.1
 have HP := Lib.hid (And.intro hb2 (HX.out.2.2.2.trans hU))
 have hst : Qh kyV 32 52 (fun _ => none) (fun _ _ => True) 26 (fun a n c => #[.int .i64 p, .slice a n c, .slice none 0 0, .slice none 0 0, .int .i64 0]) br BX F w2 z1 [] none 0 w2 :=
  ⟨hR, hbx, World.ownsRow_nil _ _ _ _, (fun g h => by cases h), (fun x h => by cases h), Upd.refl _ _, by have := HN.out; have := lt_of_heap hbx; omega, lt_of_heap hbx, by have := HN.out; omega, fun g hg => by have h := HN.out; have h2 := h.2.2.2 g hg; have := lt_of_heap hbx; omega⟩
 have HST := Lib.hid hst
 clear hst hR hU hb2 hbx hc HX
 go_upto_block 0 with (fail)
 go_cut [] (fun wx => ∃ a1 c1, Hid (Qh kyV 32 52 (fun _ => none) (fun _ _ => True) 26 (fun a n c => #[.int .i64 p, .slice a n c, .slice none 0 0, .slice none 0 0, .int .i64 0]) br BX F w2 q1.2 q1.1 a1 c1 wx))
 case first =>
  go_wp2_with fail
  go_loopw [5] (fun i wr => ∃ (j : Nat) (L : List Ky) (ar : Option Addr) (cr : Nat) (sj : RS), i = .int .i64 (j : Int) ∧ Hid (j ≤ N1 ∧ (N1 : Int) ≤ 4294967296) ∧ Hid (listS kyS N1 z1 = (L ++ (listS kyS (N1 - j) sj).1, (listS kyS (N1 - j) sj).2)) ∧ Hid (Qh kyV 32 52 (fun _ => none) (fun _ _ => True) 26 (fun a n c => #[.int .i64 p, .slice a n c, .slice none 0 0, .slice none 0 0, .int .i64 0]) br BX F w2 sj L ar cr wr)) (fun i _ => N1 - (intOf i).toNat)
  case atStart => exact ⟨0, [], none, 0, z1, rfl, Lib.hid ⟨Nat.zero_le _, HLB1.out.1⟩, Lib.hid rfl, HST⟩
  case round =>
   clear HST
   obtain ⟨j, L, ar, cr, sj, rfl, HJj, HTj, HI⟩ := hrel
   have hq := HI.out.rd.err
   by_cases hlt : (j : Int) < n1
   case neg =>
    have hI : decide ((j : Int) < n1) = false := by rw [decide_eq_false_iff_not]; exact hlt
    have HTT : Hid (q1 = (L, sj)) := Lib.hid (by rw [HLB1.out.2.1, HTj.out, show N1 - j = 0 from by have := HJj.out; have := HLB1.out.2.2; omega]; simp [listS])
    clear hlt hq
    go_wp2_with fail
    go_meet
    case rel => exact ⟨ar, cr, by rw [HTT.out]; exact HI⟩
   case pos =>
    have hI : decide ((j : Int) < n1) = true := by rw [decide_eq_true_eq]; exact hlt
    by_cases he : sj.e = 0
    case neg =>
     have hbe : (sj.e == 0) = false := by simpa using he
     have HTT : Hid (q1 = (L, sj)) := Lib.hid (by rw [HLB1.out.2.1, HTj.out, listS_stop _ _ _ he]; simp)
     clear hlt he
     go_wp2_with fail
     go_meet
     case rel => exact ⟨ar, cr, by rw [HTT.out]; exact HI⟩
    case pos =>
     rw [he] at hq
     have HS1 : Hid (listS kyS (N1 - j) sj = ((kyS sj).1 :: (listS kyS (N1 - (j + 1)) (kyS sj).2).1, (listS kyS (N1 - (j + 1)) (kyS sj).2).2)) := Lib.hid (by
      have := HJj.out; have := HLB1.out.2.2
      rw [show N1 - j = (N1 - (j + 1)) + 1 from by omega, listS_go _ _ _ he])
     have HJN : Hid (j + 1 ≤ N1 ∧ (N1 : Int) ≤ 4294967296) := Lib.hid (by have := HJj.out; have := HLB1.out.2.2; omega)
     have HLN : Hid (L.length ≤ 100000001) := Lib.hid (by
      have h1 := (listS_len ky_eats N1 z1).1
      rw [HTj.out] at h1
      have := HSL.out
      simp only [List.length_append] at h1
      omega)
     clear he
     have hz0 : (#[.int .u8 0, .int .u8 0, .int .u8 0, .int .u8 0, .int .u8 0, .int .u8 0, .int .u8 0, .int .u8 0, .int .u8 0, .int .u8 0, .int .u8 0, .int .u8 0, .int .u8 0, .int .u8 0, .int .u8 0, .int .u8 0, .int .u8 0, .int .u8 0, .int .u8 0, .int .u8 0, .int .u8 0, .int .u8 0, .int .u8 0, .int .u8 0, .int .u8 0, .int .u8 0, .int .u8 0, .int .u8 0, .int .u8 0, .int .u8 0, .int .u8 0, .int .u8 0] : Array Value) = keyRow [] 0 := rfl
     have hUk := Upd.alloc (fun _ => False) wr (.cells (keyRow [] 0) 52)
     have hbk := heap_alloc_new wr (.cells (keyRow [] 0) 52)
     have HZ0 := Lib.hid (And.intro (HI.out.rd.upd hUk (fun h => h) (fun _ _ h => h)) (And.intro hbk hUk))
     have HBR : Hid (br < wr.heap.size ∧ ∀ g, F = some g → g < wr.heap.size) := Lib.hid ⟨HI.out.rd.lt, fun g hg => by have h1 := (HI.out.n7 g hg).1; have := HI.out.upd.size; omega⟩
     rw [← hz0] at HZ0
     clear hz0 hUk hbk
     go_wp2_with fail
     generalize hw5 : wr = w5 at *
     clear hw5
     clear hq
     generalize w5.alloc (.cells #[.int .u8 0, .int .u8 0, .int .u8 0, .int .u8 0, .int .u8 0, .int .u8 0, .int .u8 0, .int .u8 0, .int .u8 0, .int .u8 0, .int .u8 0, .int .u8 0, .int .u8 0, .int .u8 0, .int .u8 0, .int .u8 0, .int .u8 0, .int .u8 0, .int .u8 0, .int .u8 0, .int .u8 0, .int .u8 0, .int .u8 0, .int .u8 0, .int .u8 0, .int .u8 0, .int .u8 0, .int .u8 0, .int .u8 0, .int .u8 0, .int .u8 0, .int .u8 0] 52) = v0 at *
     obtain ⟨BK, hBK⟩ : ∃ B, w5.heap.size = B := ⟨_, rfl⟩
     rw [hBK] at HZ0 HBR ⊢
     have HBK := Lib.hid hBK
     clear hBK
     go_loopw [7] (fun i wx => ∃ q : Nat, q ≤ 32 ∧ i = .int .i64 (q : Int) ∧ Hid (Rf wx br F (keyN q sj).2 ∧ wx.heap[BK]? = some (.cells (keyRow (keyN q sj).1 q) 52) ∧ Upd (fun k => k = br) w5 wx)) (fun i _ => 32 - (intOf i).toNat)
     case atStart => exact ⟨0, by omega, rfl, Lib.hid ⟨HZ0.out.1, HZ0.out.2.1, HZ0.out.2.2.mono (fun _ _ h => h.elim)⟩⟩
     case round =>
      clear HZ0
      obtain ⟨q, hqq, rfl, HK⟩ := hrel
      by_cases hlt2 : q < 32
      ·have hI2 : (q : Int) < 32 := by omega
       have hsucc : keyN (q + 1) sj = ((keyN q sj).1 ++ [byteS (keyN q sj).2], (takeS 1 (keyN q sj).2).2) := rfl
       have hlen := keyN_len q sj
       have hnum := rfnum_any br F (keyN q sj).2 1 wr HK.out.1
       rw [show heldN 1 = 1 from rfl] at hnum
       have hbw := byte_wrap (leN (takeS 1 (keyN q sj).2).1)
       have hbs : byteS (keyN q sj).2 = UInt8.ofNat (leN (takeS 1 (keyN q sj).2).1) := rfl
       rw [← hbs] at hbw
       generalize leN (takeS 1 (keyN q sj).2).1 = v at *
       generalize (takeS 1 (keyN q sj).2).2 = s9 at *
       generalize byteS (keyN q sj).2 = x at *
       generalize (keyN q sj).1 = k at *
       have HS := Lib.hid (And.intro hsucc hlen)
       clear hsucc hlen hbs
       go_wp2_with fail
       refine hnum.mono ?_
       unfold RfRead
       rintro e v2 ⟨rfl, hR, hU⟩
       have hn2 : ¬ BK = br := by have := HBR.out.1; omega
       have hrow := (hU.block BK (lt_of_heap HK.out.2.1) hn2).trans HK.out.2.1
       have hc : v2.cell? ⟨BK, q, none⟩ = some (.int .u8 0) := by
        rw [cell_of_row _ _ _ _ _ _ hrow]; exact keyRow_at k q HS.out.2 hlt2
       have hf : v2.frozen? ⟨BK, q, none⟩ = false := free_row hrow
       have hrow' := setCell_heap q (bv x) hrow
       rw [keyRow_set k q HS.out.2 hlt2 x] at hrow'
       have hUs := Upd.setCell (S := fun k => k = BK) v2 (p := ⟨BK, q, none⟩) rfl (bv x)
       have hR' := hR.upd hUs (fun h => hn2 h.symm) (fun g hg h => by have := HBR.out.2 g hg; omega)
       have hU' := (HK.out.2.2.trans hU).next hUs (fun i hi h => by have := HBK.out; omega)
       have HJ := Lib.hid (And.intro hR' (And.intro hrow' hU'))
       unfold bv at HJ
       clear hR hU hrow hrow' hUs hR' hU' hn2
       go_wp2_with fail
       go_roundw
       case rel => exact ⟨q + 1, by omega, by first | rfl | go_num, Lib.hid (by rw [HS.out.1]; exact HJ.out)⟩
       case measure => simp [intOf]; omega
      ·obtain rfl : q = 32 := by omega
       obtain ⟨k, hkl, s9, hk1, hk2⟩ := key_ex sj
       have hrd := HK.out.1
       have hkr := HK.out.2.1
       rw [hk1] at hrd hkr
       have hrg : wr.rangeAt BK 0 (bvs k) := fun i u hu => by
        rw [cell_of_row _ _ _ _ _ _ hkr, Nat.zero_add]
        unfold keyRow
        rw [List.getElem?_toArray]
        simpa using hu
       have HQ := Lib.hid (HI.out.read plain_stays hrd HK.out.2.2)
       have HS2 := HS1
       rw [hk2] at HS2
       clear hrd hkr hk1 hk2 HS1
       have HX1 : Hid (Qh kyV 32 52 (fun _ => none) (fun _ _ => True) 26 (fun a n c => #[.int .i64 p, .slice a n c, .slice none 0 0, .slice none 0 0, .int .i64 0]) br BX F w2 s9 L ar cr wr) := HQ
       have hUb := Upd.alloc (fun _ => False) wr (.cells (kyA ⟨k, hkl⟩) 52)
       have hsrc : Src Tryz.prog 32 22 (.slice (some ⟨wr.heap.size, 0, none⟩) 1 1) 1 (kyV ⟨k, hkl⟩) (wr.alloc (.cells (kyA ⟨k, hkl⟩) 52)) := row_src (X := kyA ⟨k, hkl⟩) Tryz.underlying22 (kyA_size ⟨k, hkl⟩) (by simp [kyA, bvs, bv, Value.oneCell']) (heap_alloc_new wr _)
       have hownx := ownsRow_upd HX1.out.own hUb (fun _ _ h => h)
       have hq7 := HX1.out.q1 1 (fun _ _ _ => rfl)
       have hLn := HLN.out
       obtain ⟨i0, hi, hz0, hz1, hz2⟩ := info_parts4 infoKeyZ
       clear HK HI HQ
       go_wp2_with first
        | refine wpList_load_key rfl (.tmp 6) rfl BK 0 rfl k hkl hrg ?_
        | refine wpList_slice_ky rfl (.tmp 41) rfl ⟨k, hkl⟩ rfl ?_
        | (at_builtin; refine wpList_app _ rfl (.tmp 40) (.tmp 42) 22 22 rfl 52 i0 (.agg (kyA kyZ)) 32 32 Tryz.underlying22 hi hz0 hz1 hz2 (kyA_size kyZ) ar L.length cr (L.flatMap kyV) rfl hownx (.slice (some ⟨wr.heap.size, 0, none⟩) 1 1) 1 (kyV ⟨k, hkl⟩) rfl hsrc ?_ ?_ ?_)
       ·unfold maxLen; omega
       ·omega
       clear hi hz0 hz1 hz2
       intro a8 c8 w8 hown8 hg8 hat8 hnil8
       obtain ⟨hcb, hq8, hf8⟩ := HX1.out.add plain_stays 1 (fun _ _ _ => rfl) (fun _ _ _ _ _ _ => rfl) ⟨k, hkl⟩ trivial (fun g hg => by cases hg) _ hown8 hg8 (by first | exact hat8 | simpa using hat8)
       have HM8 := Lib.hid hcb
       have HT8 : Hid (listS kyS N1 z1 = ((L ++ [⟨k, hkl⟩]) ++ (listS kyS (N1 - (j + 1)) s9).1, (listS kyS (N1 - (j + 1)) s9).2)) := Lib.hid (by rw [HTj.out, HS2.out]; simp)
       clear hown8 hg8 hat8 hnil8 hcb hownx hsrc hUb hq7 HX1 hLn HTj HS2 hrg
       have hb := HJN.out
       obtain ⟨hb1, hb2⟩ := hb
       go_wp2_with fail
       go_roundw
       case rel => exact ⟨j + 1, L ++ [⟨k, hkl⟩], a8, c8, s9, by first | rfl | go_num, HJN, HT8, HM8⟩
       case measure => simp [intOf]; omega
 case rest =>
 obtain ⟨a1, c1, HQ1⟩ := hcut
 clear HST HLB1 HSL
 have HV1 : Hid (Vw wc a1 q1.1.length c1 32 (q1.1.flatMap kyV) ∧ (∀ g, blk a1 = some g → BX < g ∧ g < wc.heap.size)) := Lib.hid ⟨Vw.of_own HQ1.out.own, fun g hg => ⟨by have := HQ1.out.fr g hg; have := HQ1.out.n3; omega, (HQ1.out.own.lt g ((own_blk _ _ _).trans hg)).2⟩⟩
 have hUq := HQ1.out.upd
 have HX : Hid (Rf wc br F q1.2 ∧ wc.heap[B2]? = some (.cells #[.int .i64 0, .slice none 0 0, .slice none 0 0, .slice none 0 0, .int .i64 0] 26) ∧ wc.heap[BX]? = some (.cells (#[.int .i64 p, .slice a1 q1.1.length c1, .slice none 0 0, .slice none 0 0, .int .i64 0]) 26) ∧ Upd (fun k => k = br) w wc) :=
  Lib.hid ⟨HQ1.out.rd, (hUq.block B2 (lt_of_heap HP.out.1) (by have := HN.out; have := HQ1.out.n5; omega)).trans HP.out.1, HQ1.out.var, HP.out.2.next hUq (fun i hi e => by have := HN.out; have := HBX.out; omega)⟩
 clear hUq HQ1 HP
 have hc := rfint_any br F q1.2 wc HX.out.1
 have hib := intV_bd q1.2
 have htl := takeS_len 4 q1.2
 have hQ1 := HM.out.2.1
 generalize intV q1.2 = n2 at *
 generalize (takeS 4 q1.2).2 = z2 at *
 obtain ⟨N2, hN2⟩ : ∃ N, N = n2.toNat := ⟨_, rfl⟩
 rw [← hN2] at hQ1
 have HLB2 : Hid ((N2 : Int) ≤ 4294967296 ∧ q2 = listS mkS N2 z2 ∧ N2 = n2.toNat) := Lib.hid ⟨by omega, hQ1, hN2⟩
 have HSL : Hid (z2.l.length ≤ 100000000) := Lib.hid (by have := HL.out; omega)
 clear hQ1 hN2 hib htl
 go_wp2_with fail
 refine hc.mono ?_
 unfold RfRead
 rintro e w3 ⟨rfl, hR, hU⟩
 have HV1 : Hid (Vw w3 a1 q1.1.length c1 32 (q1.1.flatMap kyV) ∧ (∀ g, blk a1 = some g → BX < g ∧ g < w3.heap.size)) := Lib.hid ⟨HV1.out.1.upd hU (fun g hg e => by have := HV1.out.2 g hg; have := HN.out; have := HBX.out; omega), fun g hg => ⟨(HV1.out.2 g hg).1, Nat.lt_of_lt_of_le (HV1.out.2 g hg).2 (hU).size⟩⟩
 have hb2 := (hU.block B2 (lt_of_heap HX.out.2.1) (by have := HN.out; omega)).trans HX.out.2.1
 have hbx := (hU.block BX (lt_of_heap HX.out.2.2.1) (by have := HN.out; have := HBX.out; omega)).trans HX.out.2.2.1
 have HP := Lib.hid (And.intro hb2 (HX.out.2.2.2.trans hU))
 have hst : Qh mkV 2 77 mkBl MkIn 26 (fun a n c => #[.int .i64 p, .slice a1 q1.1.length c1, .slice a n c, .slice none 0 0, .int .i64 0]) br BX F w3 z2 [] none 0 w3 :=
  ⟨hR, hbx, World.ownsRow_nil _ _ _ _, (fun g h => by cases h), (fun x h => by cases h), Upd.refl _ _, by have := HN.out; have := HBX.out; have := lt_of_heap hbx; omega, lt_of_heap hbx, by have := HN.out; have := HBX.out; omega, fun g hg => by have h := HN.out; have h2 := h.2.2.2 g hg; have := HBX.out; have := lt_of_heap hbx; omega⟩
 have HST := Lib.hid hst
 clear hst hR hU hb2 hbx hc HX
 go_upto_block 4 with (fail)
 go_cut [] (fun wx => ∃ x2 a2 c2, Hid (x2.map mkC = q2.1) ∧ Hid (Qh mkV 2 77 mkBl MkIn 26 (fun a n c => #[.int .i64 p, .slice a1 q1.1.length c1, .slice a n c, .slice none 0 0, .int .i64 0]) br BX F w3 q2.2 x2 a2 c2 wx))
 case first =>
  go_wp2_with fail
  go_loopw [8] (fun i wr => ∃ (j : Nat) (L : List Mk) (ar : Option Addr) (cr : Nat) (sj : RS), i = .int .i64 (j : Int) ∧ Hid (j ≤ N2 ∧ (N2 : Int) ≤ 4294967296) ∧ Hid (listS mkS N2 z2 = (L.map mkC ++ (listS mkS (N2 - j) sj).1, (listS mkS (N2 - j) sj).2)) ∧ Hid (Qh mkV 2 77 mkBl MkIn 26 (fun a n c => #[.int .i64 p, .slice a1 q1.1.length c1, .slice a n c, .slice none 0 0, .int .i64 0]) br BX F w3 sj L ar cr wr)) (fun i _ => N2 - (intOf i).toNat)
  case atStart => exact ⟨0, [], none, 0, z2, rfl, Lib.hid ⟨Nat.zero_le _, HLB2.out.1⟩, Lib.hid rfl, HST⟩
  case round =>
   clear HST
   obtain ⟨j, L, ar, cr, sj, rfl, HJj, HTj, HI⟩ := hrel
   have hq := HI.out.rd.err
   by_cases hlt : (j : Int) < n2
   case neg =>
    have hI : decide ((j : Int) < n2) = false := by rw [decide_eq_false_iff_not]; exact hlt
    have HTT : Hid (q2 = (L.map mkC, sj)) := Lib.hid (by rw [HLB2.out.2.1, HTj.out, show N2 - j = 0 from by have := HJj.out; have := HLB2.out.2.2; omega]; simp [listS])
    clear hlt hq
    go_wp2_with fail
    go_meet
    case rel => exact ⟨L, ar, cr, Lib.hid (by rw [HTT.out]), by rw [HTT.out]; exact HI⟩
   case pos =>
    have hI : decide ((j : Int) < n2) = true := by rw [decide_eq_true_eq]; exact hlt
    by_cases he : sj.e = 0
    case neg =>
     have hbe : (sj.e == 0) = false := by simpa using he
     have HTT : Hid (q2 = (L.map mkC, sj)) := Lib.hid (by rw [HLB2.out.2.1, HTj.out, listS_stop _ _ _ he]; simp)
     clear hlt he
     go_wp2_with fail
     go_meet
     case rel => exact ⟨L, ar, cr, Lib.hid (by rw [HTT.out]), by rw [HTT.out]; exact HI⟩
    case pos =>
     rw [he] at hq
     have HS1 : Hid (listS mkS (N2 - j) sj = ((mkS sj).1 :: (listS mkS (N2 - (j + 1)) (mkS sj).2).1, (listS mkS (N2 - (j + 1)) (mkS sj).2).2)) := Lib.hid (by
      have := HJj.out; have := HLB2.out.2.2
      rw [show N2 - j = (N2 - (j + 1)) + 1 from by omega, listS_go _ _ _ he])
     have HJN : Hid (j + 1 ≤ N2 ∧ (N2 : Int) ≤ 4294967296) := Lib.hid (by have := HJj.out; have := HLB2.out.2.2; omega)
     have HLN : Hid (L.length ≤ 100000001) := Lib.hid (by
      have h1 := (listS_len mk_eats N2 z2).1
      rw [HTj.out] at h1
      have := HSL.out
      simp only [List.length_append, List.length_map] at h1
      omega)
     clear he
     have htl := takeS_len 4 sj
     have hc := rfint_any br F sj wr HI.out.rd
     have hmk : mkS sj = ((intV sj, (listS intF (intV (takeS 4 sj).2).toNat (takeS 4 (takeS 4 sj).2).2).1), (listS intF (intV (takeS 4 sj).2).toNat (takeS 4 (takeS 4 sj).2).2).2) := rfl
     have htl2 := takeS_len 4 (takeS 4 sj).2
     have hsl : sj.l.length ≤ 100000000 := HI.out.rd.len
     generalize intV sj = old at *
     generalize (takeS 4 sj).2 = s6 at *
     generalize hw5 : wr = w5 at *
     clear hw5
     go_wp2_with fail
     refine hc.mono ?_
     unfold RfRead
     rintro e u1 ⟨rfl, hR, hU⟩
     have hUx := Upd.alloc (fun _ => False) u1 (.cells #[.int .i64 old, .slice none 0 0] 77)
     have hbm := heap_alloc_new u1 (.cells #[.int .i64 old, .slice none 0 0] 77)
     have hc2 := rfint_any br F s6 _ (hR.upd hUx (fun h => h) (fun _ _ h => h))
     have hbl : br < w5.heap.size := HI.out.rd.lt
     have HU1 := Lib.hid (And.intro hbm (And.intro (hU.trans (hUx.mono (T := fun k => k = br) (fun _ _ h => h.elim))) (And.intro hU.size hbl)))
     have hib := intV_bd s6
     obtain ⟨Q6, hQ6⟩ : ∃ Q, Q = listS intF (intV s6).toNat (takeS 4 s6).2 := ⟨_, rfl⟩
     rw [← hQ6] at hmk
     have HMK := Lib.hid hmk
     generalize intV s6 = n6 at *
     generalize (takeS 4 s6).2 = z6 at *
     obtain ⟨N6, hN6⟩ : ∃ N, N = n6.toNat := ⟨_, rfl⟩
     rw [← hN6] at hQ6
     have HLB6 : Hid ((N6 : Int) ≤ 4294967296 ∧ Q6 = listS intF N6 z6 ∧ N6 = n6.toNat) := Lib.hid ⟨by omega, hQ6, hN6⟩
     have HSL6 : Hid (z6.l.length ≤ 100000000) := Lib.hid (by omega)
     clear hR hU hUx hbm hmk hQ6 hN6 hib htl htl2 hsl hc hbl hq
     go_wp2_with fail
     generalize u1.alloc (.cells #[.int .i64 old, .slice none 0 0] 77) = y5 at *
     obtain ⟨BM, hBM⟩ : ∃ B, u1.heap.size = B := ⟨_, rfl⟩
     rw [hBM] at HU1 ⊢
     clear hBM
     refine hc2.mono ?_
     unfold RfRead
     rintro e w6 ⟨rfl, hR, hU⟩
     have hbm := (hU.block BM (lt_of_heap HU1.out.1) (by have := HU1.out.2.2; omega)).trans HU1.out.1
     have HU6 := Lib.hid (And.intro (HU1.out.2.1.trans hU) (And.intro HU1.out.2.2 (lt_of_heap hbm)))
     have hstm : Qh ivV 1 3 (fun _ => none) (fun _ _ => True) 77 (fun a n c => #[.int .i64 old, .slice a n c]) br BM F w6 z6 [] none 0 w6 :=
      ⟨hR, hbm, World.ownsRow_nil _ _ _ _, (fun g h => by cases h), (fun x h => by cases h), Upd.refl _ _, by have := HU6.out.2; omega, lt_of_heap hbm, by have := HU6.out.2; omega, fun g hg => by have h1 := (HI.out.n7 g hg).1; have h2 := HI.out.upd.size; have := HU6.out.2; omega⟩
     have HSTM := Lib.hid hstm
     clear hstm hR hU hbm hc2 HU1
     go_wp2_with fail
     go_loopw [11] (fun i wr => ∃ (q : Nat) (M : List Int) (am : Option Addr) (cm : Nat) (sq : RS), i = .int .i64 (q : Int) ∧ Hid (q ≤ N6 ∧ (N6 : Int) ≤ 4294967296) ∧ Hid (listS intF N6 z6 = (M ++ (listS intF (N6 - q) sq).1, (listS intF (N6 - q) sq).2)) ∧ Hid (Qh ivV 1 3 (fun _ => none) (fun _ _ => True) 77 (fun a n c => #[.int .i64 old, .slice a n c]) br BM F w6 sq M am cm wr)) (fun i _ => N6 - (intOf i).toNat)
     case atStart => exact ⟨0, [], none, 0, z6, rfl, Lib.hid ⟨Nat.zero_le _, HLB6.out.1⟩, Lib.hid rfl, HSTM⟩
     case round =>
      clear HSTM
      obtain ⟨q, M, am, cm, sq, rfl, HJq, HTq, HK⟩ := hrel
      have hq := HK.out.rd.err
      by_cases hlt : (q : Int) < n6
      case neg =>
       have hI : decide ((q : Int) < n6) = false := by rw [decide_eq_false_iff_not]; exact hlt
       have HTT : Hid (Q6 = (M, sq)) := Lib.hid (by rw [HLB6.out.2.1, HTq.out, show N6 - q = 0 from by have := HJq.out; have := HLB6.out.2.2; omega]; simp [listS])
       clear hlt hq
       clear HTq
       have hUm := HU6.out.1.next HK.out.upd (fun i hi e => by have := HU6.out.2; omega)
       have HQ := Lib.hid (HI.out.read mk_stays HK.out.rd hUm)
       have hvm : Vw wr am M.length cm 1 (M.map iv) := by have := Vw.of_own HK.out.own; rwa [flat_ivV] at this
       have hbm : ∀ g, blk am = some g → w3.heap.size ≤ g ∧ g < wr.heap.size ∧ blk ar ≠ some g := fun g hg => by
        have h1 := HK.out.fr g hg
        have h2 := (HK.out.own.lt g ((own_blk _ _ _).trans hg)).2
        have h3 := HI.out.upd.size
        have h4 := HU6.out.2
        exact ⟨by omega, h2, fun e => by have := (HI.out.own.lt g ((own_blk _ _ _).trans e)).2; omega⟩
       have hrm := HK.out.var
       have hUb := Upd.alloc (fun _ => False) wr (.cells #[.int .i64 old, .slice am M.length cm] 77)
       have hsrc : Src Tryz.prog 2 23 (.slice (some ⟨wr.heap.size, 0, none⟩) 1 1) 1 (mkV ⟨old, M, am, cm⟩) (wr.alloc (.cells #[.int .i64 old, .slice am M.length cm] 77)) := row_src (X := #[.int .i64 old, .slice am M.length cm]) Tryz.underlying23 rfl (by simp [Value.oneCell']) (heap_alloc_new wr _)
       have hownx := ownsRow_upd HQ.out.own hUb (fun _ _ h => h)
       have hq7 := HQ.out.q1 2 (fun _ _ _ => rfl)
       have hLn := HLN.out
       obtain ⟨hb1, hb2⟩ := HJN.out
       obtain ⟨i0, hi, hz0, hz1, hz2⟩ := info_parts4 infoMarkerZ
       have HT8 : Hid (listS mkS N2 z2 = ((L ++ [(⟨old, M, am, cm⟩ : Mk)]).map mkC ++ (listS mkS (N2 - (j + 1)) sq).1, (listS mkS (N2 - (j + 1)) sq).2)) := Lib.hid (by rw [HTj.out, HS1.out, HMK.out, HTT.out]; simp [mkC])
       have HVM := Lib.hid (And.intro hvm hbm)
       clear hvm hbm hUm HTT HMK HS1 HTj HI HU6
       clear HK
       go_wp2_with first
        | refine wpList_load_row rfl 77 (.tmp 9) rfl BM #[.int .i64 old, .slice am M.length cm] 77 (0, 0) _ rfl hrm Tryz.underlying77 rfl infoMk2 ?_
        | refine wpList_slice_gen rfl 23 77 2 (.tmp 85) rfl Tryz.underlying23 i0 (.agg #[.int .i64 0, .slice none 0 0]) hi hz0 hz1 (by decide) (by decide) (.agg #[.int .i64 old, .slice am M.length cm]) #[.int .i64 old, .slice am M.length cm] rfl (by kernel_rfl) ?_
        | (at_builtin; refine wpList_app _ rfl (.tmp 84) (.tmp 86) 23 23 rfl 77 i0 (.agg #[.int .i64 0, .slice none 0 0]) 2 32 Tryz.underlying23 hi hz0 hz1 hz2 rfl ar L.length cr (L.flatMap mkV) rfl hownx (.slice (some ⟨wr.heap.size, 0, none⟩) 1 1) 1 (mkV ⟨old, M, am, cm⟩) rfl hsrc ?_ ?_ ?_)
       ·unfold maxLen; omega
       ·omega
       clear hi hz0 hz1 hz2
       intro a8 c8 w8 hown8 hg8 hat8 hnil8
       obtain ⟨hcb, hq8, hf8⟩ := HQ.out.add mk_stays 2 (fun _ _ _ => rfl) (fun _ _ _ _ _ _ => rfl) ⟨old, M, am, cm⟩ HVM.out.1 HVM.out.2 _ hown8 hg8 (by first | exact hat8 | simpa using hat8)
       have HM8 := Lib.hid hcb
       clear hown8 hg8 hat8 hnil8 hcb hownx hsrc hUb hq7 HQ hLn hrm HVM
       go_wp2_with fail
       go_roundw
       case rel => exact ⟨j + 1, L ++ [(⟨old, M, am, cm⟩ : Mk)], a8, c8, sq, by first | rfl | go_num, HJN, HT8, HM8⟩
       case measure => simp [intOf]; omega
      case pos =>
       have hI : decide ((q : Int) < n6) = true := by rw [decide_eq_true_eq]; exact hlt
       by_cases he : sq.e = 0
       case neg =>
        have hbe : (sq.e == 0) = false := by simpa using he
        have HTT : Hid (Q6 = (M, sq)) := Lib.hid (by rw [HLB6.out.2.1, HTq.out, listS_stop _ _ _ he]; simp)
        clear hlt he
        clear HTq
        have hUm := HU6.out.1.next HK.out.upd (fun i hi e => by have := HU6.out.2; omega)
        have HQ := Lib.hid (HI.out.read mk_stays HK.out.rd hUm)
        have hvm : Vw wr am M.length cm 1 (M.map iv) := by have := Vw.of_own HK.out.own; rwa [flat_ivV] at this
        have hbm : ∀ g, blk am = some g → w3.heap.size ≤ g ∧ g < wr.heap.size ∧ blk ar ≠ some g := fun g hg => by
         have h1 := HK.out.fr g hg
         have h2 := (HK.out.own.lt g ((own_blk _ _ _).trans hg)).2
         have h3 := HI.out.upd.size
         have h4 := HU6.out.2
         exact ⟨by omega, h2, fun e => by have := (HI.out.own.lt g ((own_blk _ _ _).trans e)).2; omega⟩
        have hrm := HK.out.var
        have hUb := Upd.alloc (fun _ => False) wr (.cells #[.int .i64 old, .slice am M.length cm] 77)
        have hsrc : Src Tryz.prog 2 23 (.slice (some ⟨wr.heap.size, 0, none⟩) 1 1) 1 (mkV ⟨old, M, am, cm⟩) (wr.alloc (.cells #[.int .i64 old, .slice am M.length cm] 77)) := row_src (X := #[.int .i64 old, .slice am M.length cm]) Tryz.underlying23 rfl (by simp [Value.oneCell']) (heap_alloc_new wr _)
        have hownx := ownsRow_upd HQ.out.own hUb (fun _ _ h => h)
        have hq7 := HQ.out.q1 2 (fun _ _ _ => rfl)
        have hLn := HLN.out
        obtain ⟨hb1, hb2⟩ := HJN.out
        obtain ⟨i0, hi, hz0, hz1, hz2⟩ := info_parts4 infoMarkerZ
        have HT8 : Hid (listS mkS N2 z2 = ((L ++ [(⟨old, M, am, cm⟩ : Mk)]).map mkC ++ (listS mkS (N2 - (j + 1)) sq).1, (listS mkS (N2 - (j + 1)) sq).2)) := Lib.hid (by rw [HTj.out, HS1.out, HMK.out, HTT.out]; simp [mkC])
        have HVM := Lib.hid (And.intro hvm hbm)
        clear hvm hbm hUm HTT HMK HS1 HTj HI HU6
        clear HK
        go_wp2_with first
         | refine wpList_load_row rfl 77 (.tmp 9) rfl BM #[.int .i64 old, .slice am M.length cm] 77 (0, 0) _ rfl hrm Tryz.underlying77 rfl infoMk2 ?_
         | refine wpList_slice_gen rfl 23 77 2 (.tmp 85) rfl Tryz.underlying23 i0 (.agg #[.int .i64 0, .slice none 0 0]) hi hz0 hz1 (by decide) (by decide) (.agg #[.int .i64 old, .slice am M.length cm]) #[.int .i64 old, .slice am M.length cm] rfl (by kernel_rfl) ?_
         | (at_builtin; refine wpList_app _ rfl (.tmp 84) (.tmp 86) 23 23 rfl 77 i0 (.agg #[.int .i64 0, .slice none 0 0]) 2 32 Tryz.underlying23 hi hz0 hz1 hz2 rfl ar L.length cr (L.flatMap mkV) rfl hownx (.slice (some ⟨wr.heap.size, 0, none⟩) 1 1) 1 (mkV ⟨old, M, am, cm⟩) rfl hsrc ?_ ?_ ?_)
        ·unfold maxLen; omega
        ·omega
        clear hi hz0 hz1 hz2
        intro a8 c8 w8 hown8 hg8 hat8 hnil8
        obtain ⟨hcb, hq8, hf8⟩ := HQ.out.add mk_stays 2 (fun _ _ _ => rfl) (fun _ _ _ _ _ _ => rfl) ⟨old, M, am, cm⟩ HVM.out.1 HVM.out.2 _ hown8 hg8 (by first | exact hat8 | simpa using hat8)
        have HM8 := Lib.hid hcb
        clear hown8 hg8 hat8 hnil8 hcb hownx hsrc hUb hq7 HQ hLn hrm HVM
        go_wp2_with fail
        go_roundw
        case rel => exact ⟨j + 1, L ++ [(⟨old, M, am, cm⟩ : Mk)], a8, c8, sq, by first | rfl | go_num, HJN, HT8, HM8⟩
        case measure => simp [intOf]; omega
       case pos =>
        rw [he] at hq
        have HS1i : Hid (listS intF (N6 - q) sq = ((intF sq).1 :: (listS intF (N6 - (q + 1)) (intF sq).2).1, (listS intF (N6 - (q + 1)) (intF sq).2).2)) := Lib.hid (by
         have := HJq.out; have := HLB6.out.2.2
         rw [show N6 - q = (N6 - (q + 1)) + 1 from by omega, listS_go _ _ _ he])
        have HJNi : Hid (q + 1 ≤ N6 ∧ (N6 : Int) ≤ 4294967296) := Lib.hid (by have := HJq.out; have := HLB6.out.2.2; omega)
        have HLNi : Hid (M.length ≤ 100000001) := Lib.hid (by
         have h1 := (listS_len int_eats N6 z6).1
         rw [HTq.out] at h1
         have := HSL6.out
         simp only [List.length_append] at h1
         omega)
        clear he
        obtain ⟨t0, ht0⟩ : ∃ t, t = intV sq := ⟨_, rfl⟩
        obtain ⟨s7, hs7⟩ : ∃ t, t = (takeS 4 sq).2 := ⟨_, rfl⟩
        have HT0 := Lib.hid (And.intro ht0 hs7)
        have HF : Hid (intF sq = (t0, s7)) := Lib.hid (by rw [ht0, hs7]; rfl)
        clear ht0 hs7
        go_upto_region 21 with (fail)
        clear hq
        have HQ := Lib.hid (HK.out.q1 1 (fun _ _ _ => rfl))
        refine wp_region_plan_last [([0, 1, 2], 3), ([], 4), ([], 5), ([6], 7)] [] (fun w' => w'.cell? ⟨BM, 1, none⟩ = some (.slice am M.length cm)) (by kernel_rfl) (by kernel_rfl) HQ.out ?_
        iterate 3
         refine plan_take (v := ?_) rfl rfl (fun w' hS => ?_) ?_
         rotate_left
         ·skip
          go_simp; try with_reducible rfl
         simp only [putL]
        have HN0 := Lib.hid (HK.out.same plain_stays (Upd.drew _ _))
        clear HQ
        refine plan_act rfl (fun KK hKK => ?_)
        have hc := rfint_any br F sq _ HN0.out.rd
        rw [← HT0.out.1, ← HT0.out.2] at hc
        go_wp2_with fail
        refine hc.mono ?_
        unfold RfRead
        rintro e u0 ⟨rfl, hR, hU⟩
        have HN1 := Lib.hid (HN0.out.read plain_stays hR hU)
        have HQ := Lib.hid (HN1.out.q1 1 (fun _ _ _ => rfl))
        clear hR hU hc HN0
        go_wp2_with fail
        refine hKK.out _ _ (.inr HQ.out) ?_
        clear HQ
        try simp only [putL]
        refine plan_act rfl (fun KK hKK => ?_)
        obtain ⟨i0, hi, hz0, hz1, hz2⟩ := info_parts4 infoIntZ'
        refine wpList_slice_gen rfl 49 3 1 (.tmp 79) rfl Tryz.underlying49 i0 (.int .i64 0) hi hz0 hz1 (by decide) (by decide) (.int .i64 t0) #[.int .i64 t0] rfl (by kernel_rfl) ?_
        have hUb := Upd.alloc (fun _ => False) u0 (.cells #[.int .i64 t0] 3)
        have hsrc : Src Tryz.prog 1 49 (.slice (some ⟨u0.heap.size, 0, none⟩) 1 1) 1 (ivV t0) (u0.alloc (.cells #[.int .i64 t0] 3)) := row_src (X := #[.int .i64 t0]) Tryz.underlying49 rfl (by simp [Value.oneCell']) (heap_alloc_new u0 _)
        have hownx := ownsRow_upd HN1.out.own hUb (fun _ _ h => h)
        have HS7 := HN1.out.same plain_stays hUb
        have hq7 := HS7.q1 1 (fun _ _ _ => rfl)
        have hLn := HLNi.out
        go_wp2_with fail
        refine hKK.out _ _ (.inr hq7) ?_
        refine plan_act rfl (fun KK hKK => ?_)
        try simp only [putL]
        refine wpList_app _ rfl (.tmp 77) (.tmp 80) 49 49 rfl 3 i0 (.int .i64 0) 1 8 Tryz.underlying49 hi hz0 hz1 hz2 rfl am M.length cm (M.flatMap ivV) rfl hownx (.slice (some ⟨u0.heap.size, 0, none⟩) 1 1) 1 (ivV t0) rfl hsrc ?_ ?_ ?_
        ·unfold maxLen; omega
        ·omega
        clear hi hz0 hz1 hz2
        intro a8 c8 w8 hown8 hg8 hat8 hnil8
        obtain ⟨hcb, hq8, hf8⟩ := HN1.out.add plain_stays 1 (fun _ _ _ => rfl) (fun _ _ _ _ _ _ => rfl) t0 trivial (fun g hg => by cases hg) _ hown8 hg8 hat8
        have HM8 := Lib.hid hcb
        clear hown8 hg8 hat8 hnil8 hcb hownx hsrc hUb hq7 HS7 HN1 hLn
        go_wp2_with fail
        refine hKK.out _ _ (.inr hq8) ?_
        try simp only [putL]
        iterate 1
         refine plan_take (v := ?_) rfl rfl (fun w' hS => ?_) ?_
         rotate_left
         ·skip
          go_simp; try with_reducible rfl
         simp only [putL]
        refine plan_act rfl (fun KK hKK => ?_)
        go_wp2_with fail
        refine hKK.out _ _ (.inl rfl) ?_
        refine plan_end ?_
        clear hq8 hf8
        have HT8 : Hid (listS intF N6 z6 = ((M ++ [t0]) ++ (listS intF (N6 - (q + 1)) s7).1, (listS intF (N6 - (q + 1)) s7).2)) := Lib.hid (by rw [HTq.out, HS1i.out, HF.out]; simp)
        clear HTq HS1i HK HF HT0
        obtain ⟨hb1, hb2⟩ := HJNi.out
        go_wp2_with fail
        go_roundw
        case rel => exact ⟨q + 1, M ++ [t0], a8, c8, s7, by first | rfl | go_num, HJNi, HT8, by have := HM8.out; exact Lib.hid (by simpa using this)⟩
        case measure => simp [intOf]; omega
 case rest =>
 obtain ⟨x2, a2, c2, HXX2, HQ2⟩ := hcut
 clear HST HLB2 HSL
 have HV2 : Hid (Vw wc a2 x2.length c2 2 (x2.flatMap mkV) ∧ (∀ g, blk a2 = some g → BX < g ∧ g < wc.heap.size)) := Lib.hid ⟨Vw.of_own HQ2.out.own, fun g hg => ⟨by have := HQ2.out.fr g hg; have := HQ2.out.n3; omega, (HQ2.out.own.lt g ((own_blk _ _ _).trans hg)).2⟩⟩
 have hUq := HQ2.out.upd
 have HX : Hid (Rf wc br F q2.2 ∧ wc.heap[B2]? = some (.cells #[.int .i64 0, .slice none 0 0, .slice none 0 0, .slice none 0 0, .int .i64 0] 26) ∧ wc.heap[BX]? = some (.cells (#[.int .i64 p, .slice a1 q1.1.length c1, .slice a2 x2.length c2, .slice none 0 0, .int .i64 0]) 26) ∧ Upd (fun k => k = br) w wc) :=
  Lib.hid ⟨HQ2.out.rd, (hUq.block B2 (lt_of_heap HP.out.1) (by have := HN.out; have := HQ2.out.n5; omega)).trans HP.out.1, HQ2.out.var, HP.out.2.next hUq (fun i hi e => by have := HN.out; have := HBX.out; omega)⟩
 have HV1 : Hid (Vw wc a1 q1.1.length c1 32 (q1.1.flatMap kyV) ∧ (∀ g, blk a1 = some g → BX < g ∧ g < wc.heap.size)) := Lib.hid ⟨HV1.out.1.upd hUq (fun g hg e => by have := HV1.out.2 g hg; have := HN.out; have := HBX.out; omega), fun g hg => ⟨(HV1.out.2 g hg).1, Nat.lt_of_lt_of_le (HV1.out.2 g hg).2 (hUq).size⟩⟩
 have HE2 : Hid (∀ x ∈ x2, MkIn wc x ∧ ∀ g, mkBl x = some g → BX < g ∧ g < wc.heap.size) := Lib.hid (fun x hx => ⟨(HQ2.out.ind x hx).1, fun g hg => ⟨by have := ((HQ2.out.ind x hx).2 g hg).1; have := HQ2.out.n3; omega, ((HQ2.out.ind x hx).2 g hg).2.1⟩⟩)
 clear hUq HQ2 HP
 have hc := rfint_any br F q2.2 wc HX.out.1
 have hib := intV_bd q2.2
 have htl := takeS_len 4 q2.2
 have hQ1 := HM.out.2.2
 generalize intV q2.2 = n3 at *
 generalize (takeS 4 q2.2).2 = z3 at *
 obtain ⟨N3, hN3⟩ : ∃ N, N = n3.toNat := ⟨_, rfl⟩
 rw [← hN3] at hQ1
 have HLB3 : Hid ((N3 : Int) ≤ 4294967296 ∧ q3 = listS nmS N3 z3 ∧ N3 = n3.toNat) := Lib.hid ⟨by omega, hQ1, hN3⟩
 have HSL : Hid (z3.l.length ≤ 100000000) := Lib.hid (by have := HL.out; omega)
 clear hQ1 hN3 hib htl
 go_wp2_with fail
 refine hc.mono ?_
 unfold RfRead
 rintro e w4 ⟨rfl, hR, hU⟩
 have HV1 : Hid (Vw w4 a1 q1.1.length c1 32 (q1.1.flatMap kyV) ∧ (∀ g, blk a1 = some g → BX < g ∧ g < w4.heap.size)) := Lib.hid ⟨HV1.out.1.upd hU (fun g hg e => by have := HV1.out.2 g hg; have := HN.out; have := HBX.out; omega), fun g hg => ⟨(HV1.out.2 g hg).1, Nat.lt_of_lt_of_le (HV1.out.2 g hg).2 (hU).size⟩⟩
 have HV2 : Hid (Vw w4 a2 x2.length c2 2 (x2.flatMap mkV) ∧ (∀ g, blk a2 = some g → BX < g ∧ g < w4.heap.size)) := Lib.hid ⟨HV2.out.1.upd hU (fun g hg e => by have := HV2.out.2 g hg; have := HN.out; have := HBX.out; omega), fun g hg => ⟨(HV2.out.2 g hg).1, Nat.lt_of_lt_of_le (HV2.out.2 g hg).2 (hU).size⟩⟩
 have HE2 : Hid (∀ x ∈ x2, MkIn w4 x ∧ ∀ g, mkBl x = some g → BX < g ∧ g < w4.heap.size) := Lib.hid (fun x hx => ⟨mk_stays _ _ _ x (HE2.out x hx).1 hU (fun g hg e => by have := (HE2.out x hx).2 g hg; have := HN.out; have := HBX.out; omega), fun g hg => ⟨((HE2.out x hx).2 g hg).1, Nat.lt_of_lt_of_le ((HE2.out x hx).2 g hg).2 (hU).size⟩⟩)
 have hb2 := (hU.block B2 (lt_of_heap HX.out.2.1) (by have := HN.out; omega)).trans HX.out.2.1
 have hbx := (hU.block BX (lt_of_heap HX.out.2.2.1) (by have := HN.out; have := HBX.out; omega)).trans HX.out.2.2.1
 have HP := Lib.hid (And.intro hb2 (HX.out.2.2.2.trans hU))
 have hst : Qh nmV 2 92 (fun _ => none) (fun _ _ => True) 26 (fun a n c => #[.int .i64 p, .slice a1 q1.1.length c1, .slice a2 x2.length c2, .slice a n c, .int .i64 0]) br BX F w4 z3 [] none 0 w4 :=
  ⟨hR, hbx, World.ownsRow_nil _ _ _ _, (fun g h => by cases h), (fun x h => by cases h), Upd.refl _ _, by have := HN.out; have := HBX.out; have := lt_of_heap hbx; omega, lt_of_heap hbx, by have := HN.out; have := HBX.out; omega, fun g hg => by have h := HN.out; have h2 := h.2.2.2 g hg; have := HBX.out; have := lt_of_heap hbx; omega⟩
 have HST := Lib.hid hst
 clear hst hR hU hb2 hbx hc HX
 go_upto_block 8 with (fail)
 go_cut [] (fun wx => ∃ a3 c3, Hid (Qh nmV 2 92 (fun _ => none) (fun _ _ => True) 26 (fun a n c => #[.int .i64 p, .slice a1 q1.1.length c1, .slice a2 x2.length c2, .slice a n c, .int .i64 0]) br BX F w4 q3.2 q3.1 a3 c3 wx))
 case first =>
  go_wp2_with fail
  go_loopw [12] (fun i wr => ∃ (j : Nat) (L : List Nm) (ar : Option Addr) (cr : Nat) (sj : RS), i = .int .i64 (j : Int) ∧ Hid (j ≤ N3 ∧ (N3 : Int) ≤ 4294967296) ∧ Hid (listS nmS N3 z3 = (L ++ (listS nmS (N3 - j) sj).1, (listS nmS (N3 - j) sj).2)) ∧ Hid (Qh nmV 2 92 (fun _ => none) (fun _ _ => True) 26 (fun a n c => #[.int .i64 p, .slice a1 q1.1.length c1, .slice a2 x2.length c2, .slice a n c, .int .i64 0]) br BX F w4 sj L ar cr wr)) (fun i _ => N3 - (intOf i).toNat)
  case atStart => exact ⟨0, [], none, 0, z3, rfl, Lib.hid ⟨Nat.zero_le _, HLB3.out.1⟩, Lib.hid rfl, HST⟩
  case round =>
   clear HST
   obtain ⟨j, L, ar, cr, sj, rfl, HJj, HTj, HI⟩ := hrel
   have hq := HI.out.rd.err
   by_cases hlt : (j : Int) < n3
   case neg =>
    have hI : decide ((j : Int) < n3) = false := by rw [decide_eq_false_iff_not]; exact hlt
    have HTT : Hid (q3 = (L, sj)) := Lib.hid (by rw [HLB3.out.2.1, HTj.out, show N3 - j = 0 from by have := HJj.out; have := HLB3.out.2.2; omega]; simp [listS])
    clear hlt hq
    go_wp2_with fail
    go_meet
    case rel => exact ⟨ar, cr, by rw [HTT.out]; exact HI⟩
   case pos =>
    have hI : decide ((j : Int) < n3) = true := by rw [decide_eq_true_eq]; exact hlt
    by_cases he : sj.e = 0
    case neg =>
     have hbe : (sj.e == 0) = false := by simpa using he
     have HTT : Hid (q3 = (L, sj)) := Lib.hid (by rw [HLB3.out.2.1, HTj.out, listS_stop _ _ _ he]; simp)
     clear hlt he
     go_wp2_with fail
     go_meet
     case rel => exact ⟨ar, cr, by rw [HTT.out]; exact HI⟩
    case pos =>
     rw [he] at hq
     have HS1 : Hid (listS nmS (N3 - j) sj = ((nmS sj).1 :: (listS nmS (N3 - (j + 1)) (nmS sj).2).1, (listS nmS (N3 - (j + 1)) (nmS sj).2).2)) := Lib.hid (by
      have := HJj.out; have := HLB3.out.2.2
      rw [show N3 - j = (N3 - (j + 1)) + 1 from by omega, listS_go _ _ _ he])
     have HJN : Hid (j + 1 ≤ N3 ∧ (N3 : Int) ≤ 4294967296) := Lib.hid (by have := HJj.out; have := HLB3.out.2.2; omega)
     have HLN : Hid (L.length ≤ 100000001) := Lib.hid (by
      have h1 := (listS_len nm_eats N3 z3).1
      rw [HTj.out] at h1
      have := HSL.out
      simp only [List.length_append] at h1
      omega)
     clear he
     obtain ⟨t0, ht0⟩ : ∃ t, t = (textS sj).1 := ⟨_, rfl⟩
     obtain ⟨s6, hs6⟩ : ∃ t, t = (textS sj).2 := ⟨_, rfl⟩
     have HT0 := Lib.hid (And.intro ht0 hs6)
     obtain ⟨t1, ht1⟩ : ∃ t, t = intV s6 := ⟨_, rfl⟩
     obtain ⟨s7, hs7⟩ : ∃ t, t = (takeS 4 s6).2 := ⟨_, rfl⟩
     have HT1 := Lib.hid (And.intro ht1 hs7)
     have HF : Hid (nmS sj = (⟨t0, t1⟩, s7)) := Lib.hid (by rw [ht1, hs7, ht0, hs6]; rfl)
     clear ht0 hs6 ht1 hs7
     go_upto_region 27 with (fail)
     clear hq
     have HQ := Lib.hid (HI.out.q1 3 (fun _ _ _ => rfl))
     refine wp_region_plan_last [([0, 1, 2, 4], 3), ([], 5), ([6], 7), ([], 8), ([9], 10)] [] (fun w' => w'.cell? ⟨BX, 3, none⟩ = some (.slice ar L.length cr)) (by kernel_rfl) (by kernel_rfl) HQ.out ?_
     iterate 4
      refine plan_take (v := ?_) rfl rfl (fun w' hS => ?_) ?_
      rotate_left
      ·skip
       go_simp; try with_reducible rfl
      simp only [putL]
     have HN0 := Lib.hid (HI.out.same plain_stays (Upd.drew _ _))
     clear HQ
     refine plan_act rfl (fun KK hKK => ?_)
     have hc := rftext_any br F sj _ HN0.out.rd
     rw [← HT0.out.1, ← HT0.out.2] at hc
     go_wp2_with fail
     refine hc.mono ?_
     unfold RfRead
     rintro e u0 ⟨rfl, hR, hU⟩
     have HN1 := Lib.hid (HN0.out.read plain_stays hR hU)
     have HQ := Lib.hid (HN1.out.q1 3 (fun _ _ _ => rfl))
     clear hR hU hc HN0
     go_wp2_with fail
     refine hKK.out _ _ (.inr HQ.out) ?_
     clear HQ
     try simp only [putL]
     refine plan_act rfl (fun KK hKK => ?_)
     have hc := rfint_any br F s6 _ HN1.out.rd
     rw [← HT1.out.1, ← HT1.out.2] at hc
     go_wp2_with fail
     refine hc.mono ?_
     unfold RfRead
     rintro e u1 ⟨rfl, hR, hU⟩
     have HN2 := Lib.hid (HN1.out.read plain_stays hR hU)
     have HQ := Lib.hid (HN2.out.q1 3 (fun _ _ _ => rfl))
     clear hR hU hc HN1
     go_wp2_with fail
     refine hKK.out _ _ (.inr HQ.out) ?_
     clear HQ
     try simp only [putL]
     iterate 1
      refine plan_take (v := ?_) rfl rfl (fun w' hS => ?_) ?_
      rotate_left
      ·skip
       go_simp; try with_reducible rfl
      simp only [putL]
     refine plan_act rfl (fun KK hKK => ?_)
     obtain ⟨i0, hi, hz0, hz1, hz2⟩ := info_parts4 infoNamedZ
     refine wpList_slice_gen rfl 24 92 2 (.tmp 109) rfl Tryz.underlying24 i0 (.agg #[.string ⟨#[]⟩, .int .i64 0]) hi hz0 hz1 (by decide) (by decide) (.agg #[.string (str t0), .int .i64 t1]) #[.string (str t0), .int .i64 t1] rfl (by kernel_rfl) ?_
     have hUb := Upd.alloc (fun _ => False) u1 (.cells #[.string (str t0), .int .i64 t1] 92)
     have hsrc : Src Tryz.prog 2 24 (.slice (some ⟨u1.heap.size, 0, none⟩) 1 1) 1 (nmV ⟨t0, t1⟩) (u1.alloc (.cells #[.string (str t0), .int .i64 t1] 92)) := row_src (X := #[.string (str t0), .int .i64 t1]) Tryz.underlying24 rfl (by simp [Value.oneCell']) (heap_alloc_new u1 _)
     have hownx := ownsRow_upd HN2.out.own hUb (fun _ _ h => h)
     have HS7 := HN2.out.same plain_stays hUb
     have hq7 := HS7.q1 3 (fun _ _ _ => rfl)
     have hLn := HLN.out
     go_wp2_with fail
     refine hKK.out _ _ (.inr hq7) ?_
     refine plan_act rfl (fun KK hKK => ?_)
     try simp only [putL]
     refine wpList_app _ rfl (.tmp 104) (.tmp 110) 24 24 rfl 92 i0 (.agg #[.string ⟨#[]⟩, .int .i64 0]) 2 24 Tryz.underlying24 hi hz0 hz1 hz2 rfl ar L.length cr (L.flatMap nmV) rfl hownx (.slice (some ⟨u1.heap.size, 0, none⟩) 1 1) 1 (nmV ⟨t0, t1⟩) rfl hsrc ?_ ?_ ?_
     ·unfold maxLen; omega
     ·omega
     clear hi hz0 hz1 hz2
     intro a8 c8 w8 hown8 hg8 hat8 hnil8
     obtain ⟨hcb, hq8, hf8⟩ := HN2.out.add plain_stays 3 (fun _ _ _ => rfl) (fun _ _ _ _ _ _ => rfl) ⟨t0, t1⟩ trivial (fun g hg => by cases hg) _ hown8 hg8 hat8
     have HM8 := Lib.hid hcb
     clear hown8 hg8 hat8 hnil8 hcb hownx hsrc hUb hq7 HS7 HN2 hLn
     go_wp2_with fail
     refine hKK.out _ _ (.inr hq8) ?_
     try simp only [putL]
     iterate 1
      refine plan_take (v := ?_) rfl rfl (fun w' hS => ?_) ?_
      rotate_left
      ·skip
       go_simp; try with_reducible rfl
      simp only [putL]
     refine plan_act rfl (fun KK hKK => ?_)
     go_wp2_with fail
     refine hKK.out _ _ (.inl rfl) ?_
     refine plan_end ?_
     clear hq8 hf8
     have HT8 : Hid (listS nmS N3 z3 = ((L ++ [⟨t0, t1⟩]) ++ (listS nmS (N3 - (j + 1)) s7).1, (listS nmS (N3 - (j + 1)) s7).2)) := Lib.hid (by rw [HTj.out, HS1.out, HF.out]; simp)
     clear HTj HS1 HI HF HT0 HT1
     obtain ⟨hb1, hb2⟩ := HJN.out
     go_wp2_with fail
     go_roundw
     case rel => exact ⟨j + 1, L ++ [⟨t0, t1⟩], a8, c8, s7, by first | rfl | go_num, HJN, HT8, by have := HM8.out; exact Lib.hid (by simpa using this)⟩
     case measure => simp [intOf]; omega
 case rest =>
 obtain ⟨a3, c3, HQ3⟩ := hcut
 clear HST HLB3 HSL
 have HV3 : Hid (Vw wc a3 q3.1.length c3 2 (q3.1.flatMap nmV) ∧ (∀ g, blk a3 = some g → BX < g ∧ g < wc.heap.size)) := Lib.hid ⟨Vw.of_own HQ3.out.own, fun g hg => ⟨by have := HQ3.out.fr g hg; have := HQ3.out.n3; omega, (HQ3.out.own.lt g ((own_blk _ _ _).trans hg)).2⟩⟩
 have hUq := HQ3.out.upd
 have HX : Hid (Rf wc br F q3.2 ∧ wc.heap[B2]? = some (.cells #[.int .i64 0, .slice none 0 0, .slice none 0 0, .slice none 0 0, .int .i64 0] 26) ∧ wc.heap[BX]? = some (.cells (#[.int .i64 p, .slice a1 q1.1.length c1, .slice a2 x2.length c2, .slice a3 q3.1.length c3, .int .i64 0]) 26) ∧ Upd (fun k => k = br) w wc) :=
  Lib.hid ⟨HQ3.out.rd, (hUq.block B2 (lt_of_heap HP.out.1) (by have := HN.out; have := HQ3.out.n5; omega)).trans HP.out.1, HQ3.out.var, HP.out.2.next hUq (fun i hi e => by have := HN.out; have := HBX.out; omega)⟩
 have HV1 : Hid (Vw wc a1 q1.1.length c1 32 (q1.1.flatMap kyV) ∧ (∀ g, blk a1 = some g → BX < g ∧ g < wc.heap.size)) := Lib.hid ⟨HV1.out.1.upd hUq (fun g hg e => by have := HV1.out.2 g hg; have := HN.out; have := HBX.out; omega), fun g hg => ⟨(HV1.out.2 g hg).1, Nat.lt_of_lt_of_le (HV1.out.2 g hg).2 (hUq).size⟩⟩
 have HV2 : Hid (Vw wc a2 x2.length c2 2 (x2.flatMap mkV) ∧ (∀ g, blk a2 = some g → BX < g ∧ g < wc.heap.size)) := Lib.hid ⟨HV2.out.1.upd hUq (fun g hg e => by have := HV2.out.2 g hg; have := HN.out; have := HBX.out; omega), fun g hg => ⟨(HV2.out.2 g hg).1, Nat.lt_of_lt_of_le (HV2.out.2 g hg).2 (hUq).size⟩⟩
 have HE2 : Hid (∀ x ∈ x2, MkIn wc x ∧ ∀ g, mkBl x = some g → BX < g ∧ g < wc.heap.size) := Lib.hid (fun x hx => ⟨mk_stays _ _ _ x (HE2.out x hx).1 hUq (fun g hg e => by have := (HE2.out x hx).2 g hg; have := HN.out; have := HBX.out; omega), fun g hg => ⟨((HE2.out x hx).2 g hg).1, Nat.lt_of_lt_of_le ((HE2.out x hx).2 g hg).2 (hUq).size⟩⟩)
 clear hUq HQ3 HP
 have hc := rfint_any br F q3.2 wc HX.out.1
 have hSS := HS.out
 generalize intV q3.2 = k at *
 generalize (takeS 4 q3.2).2 = s4 at *
 have HSS := Lib.hid hSS
 clear HS hSS
 go_wp2_with fail
 refine hc.mono ?_
 unfold RfRead
 rintro e y5 ⟨rfl, hR, hU⟩
 have hb2 := (hU.block B2 (lt_of_heap HX.out.2.1) (by have := HN.out; omega)).trans HX.out.2.1
 have hbx := (hU.block BX (lt_of_heap HX.out.2.2.1) (by have := HN.out; have := HBX.out; omega)).trans HX.out.2.2.1
 have HV1 : Hid (Vw y5 a1 q1.1.length c1 32 (q1.1.flatMap kyV) ∧ (∀ g, blk a1 = some g → BX < g ∧ g < y5.heap.size)) := Lib.hid ⟨HV1.out.1.upd hU (fun g hg e => by have := HV1.out.2 g hg; have := HN.out; have := HBX.out; omega), fun g hg => ⟨(HV1.out.2 g hg).1, Nat.lt_of_lt_of_le (HV1.out.2 g hg).2 (hU).size⟩⟩
 have HV2 : Hid (Vw y5 a2 x2.length c2 2 (x2.flatMap mkV) ∧ (∀ g, blk a2 = some g → BX < g ∧ g < y5.heap.size)) := Lib.hid ⟨HV2.out.1.upd hU (fun g hg e => by have := HV2.out.2 g hg; have := HN.out; have := HBX.out; omega), fun g hg => ⟨(HV2.out.2 g hg).1, Nat.lt_of_lt_of_le (HV2.out.2 g hg).2 (hU).size⟩⟩
 have HE2 : Hid (∀ x ∈ x2, MkIn y5 x ∧ ∀ g, mkBl x = some g → BX < g ∧ g < y5.heap.size) := Lib.hid (fun x hx => ⟨mk_stays _ _ _ x (HE2.out x hx).1 hU (fun g hg e => by have := (HE2.out x hx).2 g hg; have := HN.out; have := HBX.out; omega), fun g hg => ⟨((HE2.out x hx).2 g hg).1, Nat.lt_of_lt_of_le ((HE2.out x hx).2 g hg).2 (hU).size⟩⟩)
 have HV3 : Hid (Vw y5 a3 q3.1.length c3 2 (q3.1.flatMap nmV) ∧ (∀ g, blk a3 = some g → BX < g ∧ g < y5.heap.size)) := Lib.hid ⟨HV3.out.1.upd hU (fun g hg e => by have := HV3.out.2 g hg; have := HN.out; have := HBX.out; omega), fun g hg => ⟨(HV3.out.2 g hg).1, Nat.lt_of_lt_of_le (HV3.out.2 g hg).2 (hU).size⟩⟩
 have HY := Lib.hid (And.intro hR (And.intro hb2 (And.intro hbx (HX.out.2.2.2.trans hU))))
 clear hR hU hb2 hbx hc HX
 have hc4 : y5.cell? ⟨BX, 4, none⟩ = some (.int .i64 0) := by rw [cell_of_row _ _ _ _ _ _ HY.out.2.2.1]; rfl
 have hf4 : y5.frozen? ⟨BX, 4, none⟩ = false := free_row HY.out.2.2.1
 go_upto_region 29 with (fail)
 have hU5 := Upd.setCell (S := fun q => q = BX) y5 (p := ⟨BX, 4, none⟩) rfl (.int .i64 k)
 have hvar : (y5.setCell ⟨BX, 4, none⟩ (.int .i64 k)).heap[BX]? = some (.cells (rtA ⟨p, a1, c1, q1.1, a2, c2, x2, a3, c3, q3.1, k⟩) 26) := by
  rw [setCell_heap 4 (.int .i64 k) HY.out.2.2.1]; rfl
 have hres := (hU5.block B2 (lt_of_heap HY.out.2.1) (by have := HN.out; have := HBX.out; omega)).trans HY.out.2.1
 have HU5 := Lib.hid hU5
 clear hc4 hf4 hU5
 generalize y5.setCell ⟨BX, 4, none⟩ (.int .i64 k) = y6 at *
 generalize hrt : (⟨p, a1, c1, q1.1, a2, c2, x2, a3, c3, q3.1, k⟩ : Rt) = rt at *
 have HRT := Lib.hid hrt
 clear hrt
 have hsz : (Tryz.prog.info? 26).map (·.size) = some (rtA rt).size := by rw [infoRoot]; rfl
 have h5 : (rtA rt).size = 5 := rfl
 have hone := rtA_one rt
 have HA5 := Lib.hid (And.intro hsz (And.intro h5 hone))
 generalize hAA : rtA rt = AA at *
 have HAA := Lib.hid hAA
 clear hsz h5 hone hAA
 have HUS := Lib.hid (Upd.setRow (S := fun k => k = B2) y6 rfl AA)
 go_wp2_with first
  | refine wpList_load_row rfl 26 (.tmp 3) rfl BX AA 26 (0, 0) _ rfl hvar Tryz.underlying26 rfl HA5.out.1 ?_
  | refine wpList_store_row rfl 26 (.tmp 2) (.tmp 116) rfl B2 AA _ 26 rfl rfl hres HA5.out.1 (by rw [HA5.out.2.1]; rfl) HA5.out.2.2 ?_
 refine ret_row rfl B2 AA 26 (0, 0) _ rfl (setRow_heap _ _ _ AA _ _ hres) Tryz.underlying26 rfl HA5.out.1 rfl ?_
 have hU56 : Upd (fun q => q = BX ∨ q = B2) y5 (y6.setRow B2 AA) := (HU5.out.mono (fun _ _ e => .inl e)).trans (HUS.out.mono (fun _ _ e => .inr e))
 have hn := HN.out
 have hbX := HBX.out
 have HV1 : Hid (Vw (y6.setRow B2 AA) a1 q1.1.length c1 32 (q1.1.flatMap kyV) ∧ (∀ g, blk a1 = some g → BX < g ∧ g < (y6.setRow B2 AA).heap.size)) := Lib.hid ⟨HV1.out.1.upd hU56 (fun g hg e => by have := HV1.out.2 g hg; have := HN.out; have := HBX.out; omega), fun g hg => ⟨(HV1.out.2 g hg).1, Nat.lt_of_lt_of_le (HV1.out.2 g hg).2 (hU56).size⟩⟩
 have HV2 : Hid (Vw (y6.setRow B2 AA) a2 x2.length c2 2 (x2.flatMap mkV) ∧ (∀ g, blk a2 = some g → BX < g ∧ g < (y6.setRow B2 AA).heap.size)) := Lib.hid ⟨HV2.out.1.upd hU56 (fun g hg e => by have := HV2.out.2 g hg; have := HN.out; have := HBX.out; omega), fun g hg => ⟨(HV2.out.2 g hg).1, Nat.lt_of_lt_of_le (HV2.out.2 g hg).2 (hU56).size⟩⟩
 have HE2 : Hid (∀ x ∈ x2, MkIn (y6.setRow B2 AA) x ∧ ∀ g, mkBl x = some g → BX < g ∧ g < (y6.setRow B2 AA).heap.size) := Lib.hid (fun x hx => ⟨mk_stays _ _ _ x (HE2.out x hx).1 hU56 (fun g hg e => by have := (HE2.out x hx).2 g hg; have := HN.out; have := HBX.out; omega), fun g hg => ⟨((HE2.out x hx).2 g hg).1, Nat.lt_of_lt_of_le ((HE2.out x hx).2 g hg).2 (hU56).size⟩⟩)
 have HV3 : Hid (Vw (y6.setRow B2 AA) a3 q3.1.length c3 2 (q3.1.flatMap nmV) ∧ (∀ g, blk a3 = some g → BX < g ∧ g < (y6.setRow B2 AA).heap.size)) := Lib.hid ⟨HV3.out.1.upd hU56 (fun g hg e => by have := HV3.out.2 g hg; have := HN.out; have := HBX.out; omega), fun g hg => ⟨(HV3.out.2 g hg).1, Nat.lt_of_lt_of_le (HV3.out.2 g hg).2 (hU56).size⟩⟩
 refine ⟨rt, by rw [HAA.out], ?_, ?_, ?_, ?_, ?_⟩
 ·rw [HSS.out, ← HRT.out]
  unfold rtC
  rw [HXX2.out]
 ·rw [← HRT.out]
  exact ⟨HV1.out.1, HV2.out.1, fun m hm => (HE2.out m hm).1, HV3.out.1, fun x hx => by have h1 := HL.out.2.2.2.2.2 x hx; have h2 := HL.out; unfold maxLen; omega⟩
 ·rw [← HRT.out]
  exact ⟨fun g hg => by have := HV1.out.2 g hg; omega, fun g hg => by have := HV2.out.2 g hg; omega, fun m hm g hg => by have := (HE2.out m hm).2 g hg; omega, fun g hg => by have := HV3.out.2 g hg; omega⟩
 ·rw [HSS.out]
  exact HY.out.1.upd hU56 (by omega) (fun g hg => by have := hn.2.2.2 g hg; omega)
 ·exact HY.out.2.2.2.next hU56 (fun i hi e => by omega)
end Go.Proofs.YtccejkikphpnfaaGreatDoor
