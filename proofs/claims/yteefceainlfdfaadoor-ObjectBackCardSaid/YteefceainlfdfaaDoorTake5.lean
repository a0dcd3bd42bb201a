
/- The reference's TakeTree. -/
import Derived.Test.YteefceainlfdfaaDoorTake4
import Derived.Test.YteefceainlfdfaaDoorObj9
namespace Go.Proofs.YteefceainlfdfaaDoor
set_option linter.unusedSimpArgs false
set_option linter.unusedVariables false
set_option maxRecDepth 100000
open Go.ChangeShapes Go.WideShapes Go.ChangeAt Go.RowKit

/-- A new reader of the reference, behind the first byte. -/
theorem rf_new (w : World) (a : Option Addr) (c : Nat) (l : List UInt8) (hv : Vw w a l.length c 1 (bvs l)) (hl : l.length ≤ 100000) (hl1 : 1 ≤ l.length) (hb : ∀ b, blk a = some b → b < w.heap.size) :
    Rf (w.alloc (.cells #[.slice a l.length c, .int .i64 1, .int .i64 0] 101)) w.heap.size (blk a) ⟨l.tail, 0⟩ := by
  refine ⟨⟨a, c, l, 1, 0, heap_alloc_new _ _, hv.upd (Upd.alloc (fun _ => False) _ _) (fun _ _ h => h), rfl, hl1, by omega, ?_⟩, fun h => ?_⟩
  · unfold absR; rw [if_pos rfl, List.drop_one]
  · have := hb _ h; omega

set_option maxHeartbeats 8000000 in
theorem r15TakeTree_any (a : Option Addr) (c : Nat) (l : List UInt8) (w : World) (hv : Vw w a l.length c 1 (bvs l)) (hl : l.length ≤ 100000) (hb : ∀ b, blk a = some b → b < w.heap.size) :
    Calls Tryd.prog 36 #[.slice a l.length c] w (TookE w (ttreeL l) (ttreeE l)) := by
  have hk := r15Kind_any a c l w hv
  have hkne := kind_ne l
  by_cases h2 : kindL l = 2
  case neg =>
    have hE : ttreeE l = 5 := by unfold ttreeE; rw [if_pos h2]
    have HD : Hid (ttreeE l = 5 ∧ ttreeL l = []) := Lib.hid ⟨hE, by unfold ttreeL; rw [hE]; rfl⟩
    have hkb : (kindL l != 2) = true := by simpa using h2
    clear hE h2
    generalize kindL l = k at *
    go_enter Tryd.func36, Tryd.ntmps36
    go_wp2_with fail
    refine hk.mono ?_
    rintro e w' ⟨rfl, rfl⟩
    go_wp2_with fail
    go_ret2
    rw [HD.out.1, HD.out.2]
    exact ⟨none, 0, rfl, Vw.nl _ _, Upd.refl _ _⟩
  have hE : ttreeE l = endI (treeRead l).2.e (treeE (treeRead l).1) (treeB (treeRead l).1) l := by unfold ttreeE; rw [if_neg (by simpa using h2)]
  have hL : ttreeL l = if ttreeE l ≠ 0 then [] else (treeRead l).1 := rfl
  have hl1 := hkne (by omega)
  rw [h2] at hk
  have hTR : treeRead l = entsS (leN (takeS 4 ⟨l.tail, 0⟩).1) (takeS 4 ⟨l.tail, 0⟩).2 := rfl
  have hn4 := take4_lt ⟨l.tail, 0⟩
  have HE := Lib.hid (And.intro hE (And.intro hL hTR))
  have HV := Lib.hid hv
  have hRn := rf_new w a c l hv hl hl1 hb
  obtain ⟨br, hbr⟩ : ∃ B, B = w.heap.size := ⟨_, rfl⟩
  obtain ⟨F, hF⟩ : ∃ F, F = blk a := ⟨_, rfl⟩
  rw [← hbr, ← hF] at hRn
  rw [← hF, ← hbr] at hb
  have HI := Lib.hid (And.intro hRn (Upd.alloc (fun _ => False) w (.cells #[.slice a l.length c, .int .i64 1, .int .i64 0] 101)))
  have HP := Lib.hid (And.intro hb hbr)
  clear hv hkne hE hL hTR h2 hRn hb hF
  go_enter Tryd.func36, Tryd.ntmps36
  go_wp2_with fail
  refine hk.mono ?_
  rintro e w' ⟨rfl, rfl⟩
  clear hk
  go_upto_region 4 with (fail)
  rw [← HP.out.2]
  generalize w.alloc (.cells #[.slice a l.length c, .int .i64 1, .int .i64 0] 101) = y0 at *
  clear hbr
  go_wp2_with fail
  refine (rfnum_any br F ⟨l.tail, 0⟩ 4 y0 HI.out.1).mono ?_
  unfold RfRead
  rintro e w3 ⟨rfl, hR, hU⟩
  rw [show heldN 4 = 4 from rfl] at hR ⊢
  have HI3 := Lib.hid (And.intro hR (HI.out.2.next hU (fun i hi h => by have := HP.out.2; omega)))
  clear hR hU HI
  generalize (takeS 4 ⟨l.tail, 0⟩).2 = s0 at *
  generalize leN (takeS 4 ⟨l.tail, 0⟩).1 = n0 at *
  go_wp2_with fail
  go_loopw [6, 7] (fun v i wr => ∃ (j : Nat) (L : List Ent) (ar : Option Addr) (cr : Nat) (sj : RS), Hid (entsS n0 s0 = (L ++ (entsS (n0 - j) sj).1, (entsS (n0 - j) sj).2)) ∧ j ≤ n0 ∧ Hid (L.length = j) ∧ v = .slice ar L.length cr ∧ i = .int .u64 (j : Int) ∧
      Hid (Rf wr br F sj ∧ wr.ownsRow 0 44 34 (.slice ar L.length cr) L.length (L.flatMap entV) ∧ (∀ g, blk ar = some g → br < g) ∧ Upd (fun _ => False) w wr)) (fun _ i _ => n0 - (intOf i).toNat)
  case atStart => exact ⟨0, [], none, 0, s0, Lib.hid rfl, Nat.zero_le _, Lib.hid rfl, rfl, rfl, Lib.hid ⟨HI3.out.1, World.ownsRow_nil _ _ _ _, (fun g h => by cases h), HI3.out.2⟩⟩
  case round =>
    clear HI3
    obtain ⟨j, L, ar, cr, sj, HT, hj, hLj, rfl, rfl, HI⟩ := hrel
    have hq := HI.out.1.err
    by_cases hlt : j < n0
    case neg =>
      obtain rfl : j = n0 := by omega
      have HTT : Hid (treeRead l = (L, sj)) := Lib.hid (by rw [HE.out.2.2, HT.out, Nat.sub_self]; simp [entsS])
      have hI : ¬ (j : Int) < (j : Int) := by omega
      clear HT hlt
      have hTR := HTT.out
      have hE1 := HE.out.1
      have hE2 := HE.out.2.1
      rw [hTR] at hE1 hE2
      dsimp only at hE1 hE2
      have HX := Lib.hid (And.intro hE1 hE2)
      clear hTR hE1 hE2
      by_cases he : sj.e = 0
      · have hz : sj.e = 0 := he
        rw [hz] at hq
        have hvr := Vw.of_own HI.out.2.1
        have htree := r15Tree_any ar cr L wr hvr
        have hEE : endI sj.e (treeE L) (treeB L) l = if treeE L ≠ 0 then 5 else if treeB L ≠ l then 5 else 0 := by unfold endI; rw [if_neg (by simpa using hz)]
        have HEE := Lib.hid hEE
        clear hEE hvr he hz
        go_wp2_with fail
        refine htree.mono ?_
        unfold Packed
        rintro e w9 ⟨a9, c9, rfl, hv9, hf9, hU9⟩
        have hsb := sBytes_any a9 a c9 c (treeB L) l w9 hv9 (HV.out.upd (HI.out.2.2.2.trans hU9) (fun _ _ h => h))
        have hkl : (treeB L == l) = decide (treeB L = l) := by rw [Bool.eq_iff_iff]; simp
        rw [hkl] at hsb
        have HN := Lib.hid (And.intro ((Vw.of_own HI.out.2.1).upd hU9 (fun _ _ h => h)) (HI.out.2.2.2.trans hU9))
        have HSB := Lib.hid hsb
        clear htree hv9 hf9 hU9 hsb hkl hq
        by_cases h5 : treeE L = 0
        · have hx1 := HEE.out
          rw [if_neg (by simpa using h5)] at hx1
          rw [h5]
          by_cases h6 : treeB L = l
          · rw [if_neg (by simpa using h6)] at hx1
            have hsb := HSB.out
            rw [decide_eq_true h6] at hsb
            have h1 : ttreeE l = 0 := HX.out.1.trans hx1
            have HRR : Hid (ttreeE l = 0 ∧ ttreeL l = L) := Lib.hid ⟨h1, by rw [HX.out.2, h1]; rfl⟩
            clear hx1 h5 h6 h1
            go_wp2_with fail
            refine hsb.mono ?_
            rintro e w10 ⟨rfl, rfl⟩
            go_wp2_with fail
            go_ret2
            rw [HRR.out.1, HRR.out.2]
            exact ⟨ar, cr, rfl, HN.out.1, HN.out.2⟩
          · rw [if_pos (by simpa using h6)] at hx1
            have hsb := HSB.out
            rw [decide_eq_false h6] at hsb
            have h1 : ttreeE l = 5 := HX.out.1.trans hx1
            have HRR : Hid (ttreeE l = 5 ∧ ttreeL l = []) := Lib.hid ⟨h1, by rw [HX.out.2, h1]; rfl⟩
            clear hx1 h5 h6 h1
            go_wp2_with fail
            refine hsb.mono ?_
            rintro e w10 ⟨rfl, rfl⟩
            go_wp2_with fail
            go_ret2
            rw [HRR.out.1, HRR.out.2]
            exact ⟨none, 0, rfl, Vw.nl _ _, HN.out.2⟩
        · have hx1 := HEE.out
          rw [if_pos (by simpa using h5)] at hx1
          have h1 : ttreeE l = 5 := HX.out.1.trans hx1
          have HRR : Hid (ttreeE l = 5 ∧ ttreeL l = []) := Lib.hid ⟨h1, by rw [HX.out.2, h1]; rfl⟩
          have hb5 : (treeE L != 0) = true := by simpa using h5
          clear hx1 h5 h1
          go_wp2_with fail
          go_ret2
          rw [HRR.out.1, HRR.out.2]
          exact ⟨none, 0, rfl, Vw.nl _ _, HN.out.2⟩
      · have hbn : (sj.e != 0) = true := by simpa using he
        have hR : ttreeE l = sj.e ∧ ttreeL l = [] := by
          have h1 : ttreeE l = sj.e := by rw [HX.out.1]; unfold endI; rw [if_pos he]
          refine ⟨h1, ?_⟩
          rw [HX.out.2, h1, if_pos he]
        have HRR := Lib.hid hR
        clear hR he
        generalize sj.e = se at *
        go_wp2_with fail
        refine wp_region_plan_last [] [0, 1, 2, 3, 4, 5] (fun w' => w'.cell? ⟨br, 2, none⟩ = some (.int .i64 se)) (by kernel_rfl) (by kernel_rfl) hq ?_
        iterate 6
          refine plan_last (v := ?_) rfl rfl (fun w' hS => ?_) ?_
          rotate_left
          · skip
            go_simp; try with_reducible rfl
          simp only [Act.put, List.getElem_toArray, List.getElem_cons_zero, List.getElem_cons_succ, List.setIfInBounds_toArray, List.set_cons_zero, List.set_cons_succ]
        refine plan_end ?_
        go_wp2_with fail
        go_ret2
        rw [HRR.out.1, HRR.out.2]
        exact ⟨none, 0, rfl, Vw.nl _ _, HI.out.2.2.2.trans (Upd.drew _ _)⟩

    case pos =>
      have hI : (j : Int) < (n0 : Int) := by omega
      have hjw : IntKind.u64.wrap ((j : Int) + 1) = (j : Int) + 1 := by show _ % 18446744073709551616 = _; omega
      by_cases he : sj.e = 0
      · rw [he] at hq
        have hs1 : entsS (n0 - j) sj = ((entS sj).1 :: (entsS (n0 - (j + 1)) (entS sj).2).1, (entsS (n0 - (j + 1)) (entS sj).2).2) := by
          rw [show n0 - j = (n0 - (j + 1)) + 1 from by omega, entsS, if_neg (by simpa using he)]
        have HS1 := Lib.hid hs1
        clear hs1
        go_wp2_with fail
        refine (rftext_any br F sj wr HI.out.1).mono ?_
        unfold RfRead
        rintro e w4 ⟨rfl, hR, hU⟩
        have HJ := Lib.hid (And.intro hR hU)
        clear hR hU hq
        go_wp2_with fail
        refine (rfbool_any br F (textS sj).2 w4 HJ.out.1).mono ?_
        unfold RfRead
        rintro e w5 ⟨rfl, hR, hU⟩
        have HJ5 := Lib.hid (And.intro hR (HJ.out.2.trans hU))
        clear hR hU
        go_wp2_with fail
        have hbrw : br < w5.heap.size := by
          obtain ⟨⟨a9, c9, l9, p9, e9, hh, _⟩, _⟩ := HJ5.out.1
          exact lt_of_heap hh
        refine (r15key_any br F (boolS (textS sj).2).2 w5 HJ5.out.1 (fun g hg => by have := HP.out.1 g hg; omega)).mono ?_
        clear hbrw
        rintro e w6 ⟨rfl, hR, hU⟩
        have HJ6 := Lib.hid (And.intro hR (HJ5.out.2.trans hU))
        clear hR hU
        obtain ⟨x, s2, hx0, hx1, hx2, hx3, hx4⟩ := entS_at sj
        rw [hx4] at HJ6
        rw [hx1, hx2, hx3]
        rw [hx0] at HS1
        dsimp only at HS1
        clear hx0 hx1 hx2 hx3 hx4 HJ HJ5
        obtain ⟨kx, hkx⟩ : ∃ kx, (bvs x.key).toArray = kx := ⟨_, rfl⟩
        rw [hkx]
        have HKX := Lib.hid hkx
        clear hkx
        have hbrw : br < w6.heap.size := by
          obtain ⟨⟨a9, c9, l9, p9, e9, hh, _⟩, _⟩ := HJ6.out.1
          exact lt_of_heap hh
        have hUb := Upd.alloc (fun _ => False) w6 (.cells (entA x) 44)
        have hsrc := one_ent (heap_alloc_new w6 (.cells (entA x) 44))
        have hownx := ownsRow_upd (ownsRow_upd HI.out.2.1 HJ6.out.2 (fun k hk h => by have := HI.out.2.2.1 k ((own_blk _ _ _).symm.trans hk); omega)) hUb (fun _ _ h => h)
        have hRx := HJ6.out.1.upd hUb (fun h => h) (fun _ _ h => h)
        have hU7 := (HI.out.2.2.2.next HJ6.out.2 (fun i hi h => by have := HP.out.2; omega)).trans hUb
        have hbr7 : br < (w6.alloc (.cells (entA x) 44)).heap.size := by simp; omega
        have HSR := Lib.hid (And.intro hsrc (And.intro hownx (And.intro hRx (And.intro hU7 hbr7))))
        clear hUb hsrc hownx hRx hU7 hbr7 hbrw
        obtain ⟨i0, hi, hz0, hz1, hz2⟩ := info_parts2 infoEntZ
        have HIU := Lib.hid (And.intro hi (And.intro hz0 (And.intro hz1 hz2)))
        clear hi hz0 hz1 hz2
        go_wp2_with first
          | refine wpList_build_ent rfl (.tmp 32) (.tmp 34) (.tmp 36) rfl x rfl rfl (by rw [HKX.out]; rfl) ?_
          | refine wpList_slice_ent rfl (.tmp 37) rfl x rfl ?_
          | (at_builtin; refine wpList_app _ rfl (.tmp 30) (.tmp 38) 36 36 rfl 44 i0 (.agg (entA entZ)) 34 56 Tryd.underlying36 HIU.out.1 HIU.out.2.1 HIU.out.2.2.1 HIU.out.2.2.2 (entA_size entZ) ar L.length cr (L.flatMap entV) rfl HSR.out.2.1 (.slice (some ⟨w6.heap.size, 0, none⟩) 1 1) 1 (entV x) rfl HSR.out.1 ?_ ?_ ?_)
        · have := hLj.out; unfold maxLen; omega
        · have := hLj.out; omega
        intro a8 c8 w8 hown8 hg8 hat8 hnil8
        have hge : ∀ g, blk a8 = some g → br < g := by
          intro g hg'
          rcases hat8 with h | h
          · exact HI.out.2.2.1 g (h.symm.trans hg')
          · rw [h] at hg'; cases hg'; have := HSR.out.2.2.2.2; simp at this ⊢; omega
        have hU8 := Upd.grown (S := fun k => blk ar = some k) hg8 (fun k hk => hk)
        have hR8 := HSR.out.2.2.1.upd hU8 (fun h => by have := HI.out.2.2.1 br h; omega) (fun g hg h => by have := HI.out.2.2.1 g h; have := HP.out.1 g hg; omega)
        have hU08 := HSR.out.2.2.2.1.next hU8 (fun i hi h => by have := HI.out.2.2.1 i h; have := HP.out.2; omega)
        have hfl : L.flatMap entV ++ entV x = (L ++ [x]).flatMap entV := by simp
        have hln : L.length + 1 = (L ++ [x]).length := by simp
        rw [hfl] at hown8
        have HLN := Lib.hid hln
        have hown8' : w8.ownsRow 0 44 34 (.slice a8 (L ++ [x]).length c8) (L ++ [x]).length ((L ++ [x]).flatMap entV) := by rw [← hln]; exact hown8
        have HI8 := Lib.hid (And.intro hR8 (And.intro hown8' (And.intro hge hU08)))
        clear hown8 hg8 hat8 hnil8 hge hU8 hR8 hU08 hfl hln hown8' HSR HJ6
        rw [HLN.out]
        have HT8 : Hid (entsS n0 s0 = ((L ++ [x]) ++ (entsS (n0 - (j + 1)) s2).1, (entsS (n0 - (j + 1)) s2).2)) := Lib.hid (by rw [HT.out, HS1.out]; simp)
        have hLm8 : (L ++ [x]).length = j + 1 := by rw [← HLN.out, hLj.out]
        clear HT HS1 HI HLN
        generalize L ++ [x] = L8 at *
        go_wp2_with fail
        go_roundw
        case rel => exact ⟨j + 1, L8, a8, c8, s2, HT8, by omega, Lib.hid hLm8, rfl, by first | rfl | go_num, HI8⟩
        case measure => simp [intOf]; omega
      · have HTT : Hid (treeRead l = (L, sj)) := Lib.hid (by rw [HE.out.2.2, HT.out, entsS_stop _ _ he]; simp)
        have hbe : (sj.e == 0) = false := by simpa using he
        clear HT
        have hTR := HTT.out
        have hE1 := HE.out.1
        have hE2 := HE.out.2.1
        rw [hTR] at hE1 hE2
        dsimp only at hE1 hE2
        have HX := Lib.hid (And.intro hE1 hE2)
        clear hTR hE1 hE2
        have hbn : (sj.e != 0) = true := by simpa using he
        have hR : ttreeE l = sj.e ∧ ttreeL l = [] := by
          have h1 : ttreeE l = sj.e := by rw [HX.out.1]; unfold endI; rw [if_pos he]
          refine ⟨h1, ?_⟩
          rw [HX.out.2, h1, if_pos he]
        have HRR := Lib.hid hR
        clear hR he
        generalize sj.e = se at *
        go_wp2_with fail
        refine wp_region_plan_last [] [0, 1, 2, 3, 4, 5] (fun w' => w'.cell? ⟨br, 2, none⟩ = some (.int .i64 se)) (by kernel_rfl) (by kernel_rfl) hq ?_
        iterate 6
          refine plan_last (v := ?_) rfl rfl (fun w' hS => ?_) ?_
          rotate_left
          · skip
            go_simp; try with_reducible rfl
          simp only [Act.put, List.getElem_toArray, List.getElem_cons_zero, List.getElem_cons_succ, List.setIfInBounds_toArray, List.set_cons_zero, List.set_cons_succ]
        refine plan_end ?_
        go_wp2_with fail
        go_ret2
        rw [HRR.out.1, HRR.out.2]
        exact ⟨none, 0, rfl, Vw.nl _ _, HI.out.2.2.2.trans (Upd.drew _ _)⟩

end Go.Proofs.YteefceainlfdfaaDoor
