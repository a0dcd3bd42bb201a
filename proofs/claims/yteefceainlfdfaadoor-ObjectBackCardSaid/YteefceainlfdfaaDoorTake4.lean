
/- object.TakeTree. -/
import Derived.Test.YteefceainlfdfaaDoorTake3
import Derived.Test.YteefceainlfdfaaDoorObj7
namespace Go.Proofs.YteefceainlfdfaaDoor
set_option linter.unusedSimpArgs false
set_option linter.unusedVariables false
set_option maxRecDepth 100000
open Go.ChangeShapes Go.WideShapes Go.ChangeAt Go.RowKit

theorem read_any3 (a : Option Addr) (c : Nat) (l : List UInt8) (w : World) (hv : Vw w a l.length c 1 (bvs l)) (hl : l.length ≤ 100000000) :
    Calls Tryd.prog 60 #[.slice a l.length c] w fun e w' => ∃ br F, e = .returned (.pointer (some ⟨br, 0, none⟩)) ∧ Rd w' br F l 0 ∧ Upd (fun _ => False) w w' ∧ w.heap.size ≤ br ∧ (∀ g, F = some g → w.heap.size ≤ g ∧ g < br) := by
  go_enter Tryd.func60, Tryd.ntmps60
  go_wp2_with fail
  refine (clone_any a c l w hv hl).mono ?_
  rintro e w1 ⟨a', c', rfl, hown, hU, hfr, hnil⟩
  have hz := hU.size
  have hvw := Vw.of_own hown
  have hlt : ∀ g, blk a' = some g → w.heap.size ≤ g ∧ g < w1.heap.size := fun g hg => ⟨hfr g hg, (hown.lt g ((own_blk _ _ _).trans hg)).2⟩
  clear hfr
  have Hlt := Lib.hid hlt; clear hlt
  go_wp2_with fail
  go_ret
  refine ⟨w1.heap.size, blk a', rfl, ⟨⟨a', c', heap_alloc_new _ _, hvw.upd (Upd.alloc (fun _ => False) _ _) (fun _ _ h => h), .inr rfl⟩, ?_⟩, hU.trans (Upd.alloc _ _ _), hz, Hlt.out⟩
  intro e; exact absurd (Hlt.out _ e).2 (Nat.lt_irrefl _)

/-- An entry that is read. -/
def entS (s : RS) : Ent × RS := (⟨(textS s).1, (boolS (textS s).2).1, (keyS (boolS (textS s).2).2).1, keyS_len _⟩, (keyS (boolS (textS s).2).2).2)
theorem entS_at (s : RS) : ∃ (x : Ent) (s2 : RS), entS s = (x, s2) ∧ (textS s).1 = x.path ∧ (boolS (textS s).2).1 = x.exec ∧ (keyS (boolS (textS s).2).2).1 = x.key ∧ (keyS (boolS (textS s).2).2).2 = s2 :=
  ⟨_, _, rfl, rfl, rfl, rfl, rfl⟩
def entsS : Nat → RS → List Ent × RS
  | 0, s => ([], s)
  | n + 1, s => if s.e ≠ 0 then ([], s) else ((entS s).1 :: (entsS n (entS s).2).1, (entsS n (entS s).2).2)
theorem entsS_stop (n : Nat) (s : RS) (h : s.e ≠ 0) : entsS n s = ([], s) := by
  cases n with
  | zero => rfl
  | succ n => rw [entsS, if_pos h]
theorem textS_len (s : RS) : (textS s).2.l.length ≤ s.l.length := by
  have := takeS_len 4 s
  unfold textS
  split
  · exact this
  split
  · simp
  · exact Nat.le_trans (takeS_len _ _) this
theorem boolS_len (s : RS) : (boolS s).2.l.length ≤ s.l.length := by
  unfold boolS
  split
  · simp
  · exact takeS_len 1 s
theorem keyS_le (s : RS) : (keyS s).2.l.length ≤ s.l.length := keyN_le 32 s
theorem take4_lt (s : RS) : leN (takeS 4 s).1 < 4294967296 := by
  have h := leN_lt (takeS 4 s).1
  have h2 : (takeS 4 s).1.length ≤ 4 := by
    unfold takeS
    split
    · simp
    split
    · simp
    · simp; omega
  have h3 : 256 ^ (takeS 4 s).1.length ≤ 256 ^ 4 := Nat.pow_le_pow_right (by decide) h2
  have h4 : (256 ^ 4 : Nat) = 4294967296 := by decide
  omega
def treeRead (b : List UInt8) : List Ent × RS := entsS (leN (takeS 4 ⟨b.tail, 0⟩).1) (takeS 4 ⟨b.tail, 0⟩).2
def ttreeE (b : List UInt8) : Int := if kindL b ≠ 2 then 5 else endI (treeRead b).2.e (treeE (treeRead b).1) (treeB (treeRead b).1) b
def ttreeL (b : List UInt8) : List Ent := if ttreeE b ≠ 0 then [] else (treeRead b).1
def TookE (w : World) (l : List Ent) (e0 : Int) (e : Ending) (w' : World) : Prop :=
  ∃ a c, e = .returned (.tuple #[.slice a l.length c, .int .i64 e0]) ∧ Vw w' a l.length c 34 (l.flatMap entV) ∧ Upd (fun _ => False) w w'
theorem one_ent {w : World} {g : Nat} {x : Ent} (h : w.heap[g]? = some (.cells (entA x) 44)) : Src Tryd.prog 34 36 (.slice (some ⟨g, 0, none⟩) 1 1) 1 (entV x) w := by
  have hv : Vw w (some ⟨g, 0, none⟩) 1 1 34 (entV x) := by
    refine ⟨by rw [entV_len], Nat.le_refl _, by decide, (fun h => by cases h), fun y hy j u hu => ?_⟩
    cases hy
    have ha : (Addr.add ⟨g, 0, none⟩ j) = ⟨g, j, none⟩ := by unfold Addr.add; split <;> simp_all
    rw [ha, cell_of_row _ _ _ _ _ _ h]
    simpa [entA] using hu
  refine hv.src (P := Tryd.prog) (t := 36) Tryd.underlying36 (fun u hu => ?_)
  have := entA_one x
  rw [Array.all_eq_true_iff_forall_mem] at this
  exact this u (by simpa [entA] using hu)

set_option maxHeartbeats 8000000 in
theorem oTakeTree_any (a : Option Addr) (c : Nat) (l : List UInt8) (w : World) (hv : Vw w a l.length c 1 (bvs l)) (hl : l.length ≤ 100000) :
    Calls Tryd.prog 35 #[.slice a l.length c] w (TookE w (ttreeL l) (ttreeE l)) := by
  have hk := oKind_any a c l w hv
  have hkne := kind_ne l
  by_cases h2 : kindL l = 2
  case neg =>
    have hE : ttreeE l = 5 := by unfold ttreeE; rw [if_pos h2]
    have HD : Hid (ttreeE l = 5 ∧ ttreeL l = []) := Lib.hid ⟨hE, by unfold ttreeL; rw [hE]; rfl⟩
    have hkb : (kindL l != 2) = true := by simpa using h2
    clear hE h2
    generalize kindL l = k at *
    go_enter Tryd.func35, Tryd.ntmps35
    go_wp2_with fail
    refine hk.mono ?_
    rintro e w' ⟨rfl, rfl⟩
    go_wp2_with fail
    go_ret2
    rw [HD.out.1, HD.out.2]
    exact ⟨none, 0, rfl, Vw.nl _ _, Upd.refl _ _⟩
  have hE : ttreeE l = endI (treeRead l).2.e (treeE (treeRead l).1) (treeB (treeRead l).1) l := by unfold ttreeE; rw [if_neg (by simpa using h2)]
  have hL : ttreeL l = if ttreeE l ≠ 0 then [] else (treeRead l).1 := rfl
  have hl1 := hkne (by omega)
  have htk : takeS 1 ⟨l, 0⟩ = (l.take 1, ⟨l.tail, 0⟩) := by
    unfold takeS
    rw [if_neg (by simp), if_neg (by show ¬ l.length < 1; omega), List.drop_one]
  rw [h2] at hk
  have hTR : treeRead l = entsS (leN (takeS 4 ⟨l.tail, 0⟩).1) (takeS 4 ⟨l.tail, 0⟩).2 := rfl
  have hn4 := take4_lt ⟨l.tail, 0⟩
  have hl4 := takeS_len 4 ⟨l.tail, 0⟩
  have hrd := read_any3 a c l w hv (by omega)
  have HRD := Lib.hid hrd
  have HV := Lib.hid hv
  have HE := Lib.hid (And.intro hE (And.intro hL hTR))
  have HTK := Lib.hid htk
  clear hrd hv hkne hE hL hTR htk h2
  go_enter Tryd.func35, Tryd.ntmps35
  go_wp2_with fail
  refine hk.mono ?_
  rintro e w' ⟨rfl, rfl⟩
  clear hk
  go_wp2_with fail
  refine HRD.out.mono ?_
  rintro e w1 ⟨br, F, rfl, hR, hU, hbr, hF⟩
  obtain ⟨BR, hBR⟩ : ∃ B, B = w1.heap.size := ⟨_, rfl⟩
  have hbrl : br < w1.heap.size := by
    obtain ⟨a9, c9, hh, _⟩ := hR.ex
    exact lt_of_heap hh
  have hUn := Upd.alloc (fun _ => False) w1 (.cells #[.pointer (some ⟨br, 0, none⟩)] 105)
  have hrow := heap_alloc_new w1 (.cells #[.pointer (some ⟨br, 0, none⟩)] 105)
  rw [← hBR] at hrow
  have HP := Lib.hid (And.intro hbr (And.intro hF (And.intro (show br < BR by omega) (show w.heap.size ≤ BR by omega))))
  have HI := Lib.hid (And.intro (hR.upd hUn (fun h => h) (fun _ _ h => h)) (And.intro hrow (hU.trans hUn)))
  clear hR hU hbr hF hbrl hUn hrow HRD
  go_upto_region 4 with (fail)
  rw [← hBR]
  generalize w1.alloc (.cells #[.pointer (some ⟨br, 0, none⟩)] 105) = y0 at *
  clear hBR
  have hq : y0.cell? ⟨BR, 0, none⟩ = some (.pointer (some ⟨br, 0, none⟩)) := by rw [cell_of_row _ _ _ _ _ _ HI.out.2.1]; rfl
  go_wp2_with fail
  refine (rnum_any br F ⟨l, 0⟩ 1 y0 HI.out.1 (by show l.length ≤ _; omega)).mono ?_
  unfold ReadN
  rintro e w2 ⟨rfl, hR, hU⟩
  rw [show heldN 1 = 1 from rfl, HTK.out] at hR
  have hnb : ¬ BR = br := by have := HP.out.2.2.1; omega
  have HI2 := Lib.hid (And.intro hR (And.intro ((hU.block BR (lt_of_heap HI.out.2.1) hnb).trans HI.out.2.1) (HI.out.2.2.next hU (fun i hi h => by have := HP.out.1; omega))))
  clear hR hU hq HI
  have hq : w2.cell? ⟨BR, 0, none⟩ = some (.pointer (some ⟨br, 0, none⟩)) := by rw [cell_of_row _ _ _ _ _ _ HI2.out.2.1]; rfl
  go_wp2_with fail
  refine (rnum_any br F ⟨l.tail, 0⟩ 4 w2 HI2.out.1 (by show l.tail.length ≤ _; rw [List.length_tail]; omega)).mono ?_
  unfold ReadN
  rintro e w3 ⟨rfl, hR, hU⟩
  rw [show heldN 4 = 4 from rfl] at hR ⊢
  have HI3 := Lib.hid (And.intro hR (And.intro ((hU.block BR (lt_of_heap HI2.out.2.1) hnb).trans HI2.out.2.1) (HI2.out.2.2.next hU (fun i hi h => by have := HP.out.1; omega))))
  clear hR hU hq HI2
  have hl4' : (takeS 4 ⟨l.tail, 0⟩).2.l.length ≤ l.length := Nat.le_trans hl4 (by show l.tail.length ≤ _; rw [List.length_tail]; omega)
  generalize (takeS 4 ⟨l.tail, 0⟩).2 = s0 at *
  generalize leN (takeS 4 ⟨l.tail, 0⟩).1 = n0 at *
  clear hl4 HTK
  go_wp2_with fail
  go_loopw [5, 6] (fun v i wr => ∃ (m : Nat) (L : List Ent) (ar : Option Addr) (cr : Nat) (sj : RS), Hid (entsS n0 s0 = (L ++ (entsS m sj).1, (entsS m sj).2)) ∧ L.length + m = n0 ∧ v = .slice ar L.length cr ∧ i = .int .u64 (m : Int) ∧ sj.l.length ≤ l.length ∧
      Hid (Rd wr br F sj.l sj.e ∧ wr.ownsRow 0 44 34 (.slice ar L.length cr) L.length (L.flatMap entV) ∧ (∀ g, blk ar = some g → BR < g) ∧ wr.heap[BR]? = some (.cells #[.pointer (some ⟨br, 0, none⟩)] 105) ∧ Upd (fun _ => False) w wr)) (fun _ i _ => (intOf i).toNat)
  case atStart => exact ⟨n0, [], none, 0, s0, Lib.hid rfl, by simp, rfl, rfl, hl4', Lib.hid ⟨HI3.out.1, World.ownsRow_nil _ _ _ _, (fun g h => by cases h), HI3.out.2.1, HI3.out.2.2⟩⟩
  case round =>
    clear HI3 hl4'
    obtain ⟨m, L, ar, cr, sj, HT, hLm, rfl, rfl, hsl, HI⟩ := hrel
    have hq : wr.cell? ⟨BR, 0, none⟩ = some (.pointer (some ⟨br, 0, none⟩)) := by rw [cell_of_row _ _ _ _ _ _ HI.out.2.2.2.1]; rfl
    cases m with
    | zero =>
      have HTT : Hid (treeRead l = (L, sj)) := Lib.hid (by rw [HE.out.2.2, HT.out]; simp [entsS])
      clear HT
      have hTR := HTT.out
      have hE1 := HE.out.1
      have hE2 := HE.out.2.1
      rw [hTR] at hE1 hE2
      dsimp only at hE1 hE2
      have HX := Lib.hid (And.intro hE1 hE2)
      have hvr := Vw.of_own HI.out.2.1
      have htree := oTree_any ar cr L wr hvr
      clear hTR hE1 hE2 hvr
      go_wp2_with fail
      refine htree.mono ?_
      unfold Packed
      rintro e w9 ⟨a9, c9, rfl, hv9, hf9, hU9⟩
      have hend := orend_any br F sj a a9 c c9 l (treeB L) (treeE L) w9 (HI.out.1.upd hU9 (fun h => h) (fun _ _ h => h)) (HV.out.upd (HI.out.2.2.2.2.trans hU9) (fun _ _ h => h)) hv9
      have hrow9 := (hU9.block BR (lt_of_heap HI.out.2.2.2.1) (fun h => h)).trans HI.out.2.2.2.1
      have hq9 : w9.cell? ⟨BR, 0, none⟩ = some (.pointer (some ⟨br, 0, none⟩)) := by rw [cell_of_row _ _ _ _ _ _ hrow9]; rfl
      have HN := Lib.hid (And.intro ((Vw.of_own HI.out.2.1).upd hU9 (fun _ _ h => h)) (HI.out.2.2.2.2.trans hU9))
      rw [← HX.out.1] at hend
      have HEN := Lib.hid hend
      clear htree hv9 hf9 hU9 hrow9 hend hq
      generalize hTE : ttreeE l = R at *
      have HTE := Lib.hid hTE
      clear hTE
      go_wp2_with fail
      refine HEN.out.mono ?_
      rintro e w10 ⟨rfl, hU⟩
      have HU := Lib.hid (And.intro (HN.out.1.upd hU (fun _ _ h => h)) (HN.out.2.trans hU))
      clear hU hq9
      have hE2 := HX.out.2
      by_cases hr0 : R = 0
      · rw [if_neg (by simpa using hr0)] at hE2
        have HE2 := Lib.hid hE2
        clear hE2
        subst hr0
        go_wp2_with fail
        go_ret2
        rw [HE2.out]
        exact ⟨ar, cr, rfl, HU.out.1, HU.out.2⟩
      · rw [if_pos (by simpa using hr0)] at hE2
        have HE2 := Lib.hid hE2
        have hrb : (R != 0) = true := by simpa using hr0
        clear hE2 hr0
        go_wp2_with fail
        go_ret2
        rw [HE2.out]
        exact ⟨none, 0, rfl, Vw.nl _ _, HU.out.2⟩
    | succ m =>
      have hm0 : (0 : Int) < ((m + 1 : Nat) : Int) := by omega
      have hmw : IntKind.u64.wrap (((m + 1 : Nat) : Int) - 1) = (m : Int) := by show _ % 18446744073709551616 = _; omega
      have hmw2 : IntKind.u64.wrap ((m : Int) + 1 - 1) = (m : Int) := by show _ % 18446744073709551616 = _; omega
      have hmw3 : IntKind.u64.wrap (m : Int) = (m : Int) := by show _ % 18446744073709551616 = _; omega
      have herr := err_any br F sj.l sj.e wr HI.out.1
      by_cases he : sj.e = 0
      · rw [he] at herr
        have hs1 : entsS (m + 1) sj = ((entS sj).1 :: (entsS m (entS sj).2).1, (entsS m (entS sj).2).2) := by rw [entsS, if_neg (by simpa using he)]
        have HS1 := Lib.hid hs1
        have ht1 := textS_len sj
        have ht2 := boolS_len (textS sj).2
        have ht3 := keyS_le (boolS (textS sj).2).2
        clear hs1
        go_wp2_with fail
        refine herr.mono ?_
        rintro e w' ⟨rfl, rfl⟩
        clear herr
        go_wp2_with fail
        refine wp_region_plan_last [([0, 1, 2, 4, 5, 7], 3), ([], 6), ([], 8), ([9], 10), ([], 11)] [12] (fun w' => w'.cell? ⟨BR, 0, none⟩ = some (.pointer (some ⟨br, 0, none⟩))) (by kernel_rfl) (by kernel_rfl) hq ?_
        iterate 6
          refine plan_take (v := ?_) rfl rfl (fun w' hS => ?_) ?_
          rotate_left
          · skip
            go_simp; try with_reducible rfl
          simp only [Act.put, List.getElem_toArray, List.getElem_cons_zero, List.getElem_cons_succ, List.setIfInBounds_toArray, List.set_cons_zero, List.set_cons_succ]
        refine plan_act rfl (fun KK hKK => ?_)
        go_wp2_with fail
        have hUd := Upd.drew (fun _ => False) wr
        refine (rtext_any br F sj _ (HI.out.1.upd hUd (fun h => h) (fun _ _ h => h)) (by omega)).mono ?_
        unfold ReadN
        rintro e w4 ⟨rfl, hR, hU⟩
        have hrow4 := (hU.block BR (lt_of_heap (w := wr.drew) HI.out.2.2.2.1) hnb).trans HI.out.2.2.2.1
        have hU4 := (Upd.drew (fun k => k = br) wr).trans hU
        have HJ := Lib.hid (And.intro hR (And.intro hrow4 hU4))
        clear hR hU hrow4 hU4 hUd
        have hq4 : w4.cell? ⟨BR, 0, none⟩ = some (.pointer (some ⟨br, 0, none⟩)) := by rw [cell_of_row _ _ _ _ _ _ HJ.out.2.1]; rfl
        go_wp2_with fail
        refine hKK.out _ _ (.inr hq4) ?_
        refine plan_act rfl (fun K4 hK4 => ?_)
        go_wp2_with fail
        refine (rbool_any br F (textS sj).2 w4 HJ.out.1 (by omega)).mono ?_
        unfold ReadN
        rintro e w5 ⟨rfl, hR, hU⟩
        have hrow5 := (hU.block BR (lt_of_heap HJ.out.2.1) hnb).trans HJ.out.2.1
        have HJ5 := Lib.hid (And.intro hR (And.intro hrow5 (HJ.out.2.2.trans hU)))
        clear hR hU hrow5 hq4
        have hq5 : w5.cell? ⟨BR, 0, none⟩ = some (.pointer (some ⟨br, 0, none⟩)) := by rw [cell_of_row _ _ _ _ _ _ HJ5.out.2.1]; rfl
        go_wp2_with fail
        refine hK4.out _ _ (.inr hq5) ?_
        refine plan_act rfl (fun K5 hK5 => ?_)
        go_wp2_with fail
        refine (orkey_any br F (boolS (textS sj).2).2 w5 HJ5.out.1 (fun g hg => by have := (HP.out.2.1 g hg).2; have := HP.out.2.2.1; have := lt_of_heap HJ5.out.2.1; omega) (by omega)).mono ?_
        rintro e w6 ⟨rfl, hR, hU⟩
        have hrow6 := (hU.block BR (lt_of_heap HJ5.out.2.1) hnb).trans HJ5.out.2.1
        have HJ6 := Lib.hid (And.intro hR (And.intro hrow6 (HJ5.out.2.2.trans hU)))
        clear hR hU hrow6 hq5
        have hq6 : w6.cell? ⟨BR, 0, none⟩ = some (.pointer (some ⟨br, 0, none⟩)) := by rw [cell_of_row _ _ _ _ _ _ HJ6.out.2.1]; rfl
        obtain ⟨x, s2, hx0, hx1, hx2, hx3, hx4⟩ := entS_at sj
        rw [hx4] at HJ6 ht3
        rw [hx1, hx2, hx3]
        rw [hx0] at HS1
        dsimp only at HS1
        have hsl' : s2.l.length ≤ l.length := by omega
        clear hx0 hx1 hx2 hx3 hx4 HJ HJ5
        obtain ⟨kx, hkx⟩ : ∃ kx, (bvs x.key).toArray = kx := ⟨_, rfl⟩
        rw [hkx]
        have HKX := Lib.hid hkx
        clear hkx ht1 ht2 ht3
        go_wp2_with fail
        refine hK5.out _ _ (.inr hq6) ?_
        try simp only [Act.put, List.getElem_toArray, List.getElem_cons_zero, List.getElem_cons_succ, List.setIfInBounds_toArray, List.set_cons_zero, List.set_cons_succ]
        refine plan_take (v := .agg (entA x)) rfl rfl (fun w' hS => exec_build_ent (.tmp 35) (.tmp 38) (.tmp 40) rfl x rfl rfl (by rw [HKX.out]; rfl)) ?_
        try simp only [Act.put, List.getElem_toArray, List.getElem_cons_zero, List.getElem_cons_succ, List.setIfInBounds_toArray, List.set_cons_zero, List.set_cons_succ]
        refine plan_act rfl (fun K6 hK6 => ?_)
        refine wpList_slice_ent rfl (.tmp 41) rfl x rfl ?_
        have hUb := Upd.alloc (fun _ => False) w6 (.cells (entA x) 44)
        have hrow7 := (hUb.block BR (lt_of_heap HJ6.out.2.1) (fun h => h)).trans HJ6.out.2.1
        have hsrc := one_ent (heap_alloc_new w6 (.cells (entA x) 44))
        have hownx := ownsRow_upd (ownsRow_upd HI.out.2.1 HJ6.out.2.2 (fun k hk h => by have := HI.out.2.2.1 k ((own_blk _ _ _).symm.trans hk); have := HP.out.2.2.1; omega)) hUb (fun _ _ h => h)
        have hRx := HJ6.out.1.upd hUb (fun h => h) (fun _ _ h => h)
        have hq7 : (w6.alloc (.cells (entA x) 44)).cell? ⟨BR, 0, none⟩ = some (.pointer (some ⟨br, 0, none⟩)) := by rw [cell_of_row _ _ _ _ _ _ hrow7]; rfl
        have hU7 := (HI.out.2.2.2.2.next HJ6.out.2.2 (fun i hi h => by have := HP.out.1; omega)).trans hUb
        have hBR7 : BR < (w6.alloc (.cells (entA x) 44)).heap.size := lt_of_heap hrow7
        generalize w6.alloc (.cells (entA x) 44) = w7 at *
        generalize w6.heap.size = gx at *
        clear hUb
        go_wp2_with fail
        refine hK6.out _ _ (.inr hq7) ?_
        refine plan_act rfl (fun K7 hK7 => ?_)
        obtain ⟨i0, hi, hz0, hz1, hz2⟩ := info_parts2 infoEntZ
        try simp only [Act.put, List.getElem_toArray, List.getElem_cons_zero, List.getElem_cons_succ, List.setIfInBounds_toArray, List.set_cons_zero, List.set_cons_succ]
        refine wpList_app _ rfl (.tmp 32) (.tmp 42) 36 36 rfl 44 i0 (.agg (entA entZ)) 34 56 Tryd.underlying36 hi hz0 hz1 hz2 (entA_size entZ) ar L.length cr (L.flatMap entV) rfl hownx (.slice (some ⟨gx, 0, none⟩) 1 1) 1 (entV x) rfl hsrc ?_ ?_ ?_
        · unfold maxLen; omega
        · omega
        clear hi hz0 hz1 hz2
        intro a8 c8 w8 hown8 hg8 hat8 hnil8
        have hge : ∀ g, blk a8 = some g → BR < g := by
          intro g hg'
          rcases hat8 with h | h
          · exact HI.out.2.2.1 g (h.symm.trans hg')
          · rw [h] at hg'; cases hg'; exact hBR7
        have hU8 := Upd.grown (S := fun k => blk ar = some k) hg8 (fun k hk => hk)
        have hrow8 := (hU8.block BR (lt_of_heap hrow7) (fun h => by have := HI.out.2.2.1 BR h; omega)).trans hrow7
        have hR8 := hRx.upd hU8 (fun h => by have := HI.out.2.2.1 br h; have := HP.out.2.2.1; omega) (fun g hg h => by have := HI.out.2.2.1 g h; have := (HP.out.2.1 g hg).2; have := HP.out.2.2.1; omega)
        have hU08 := hU7.next hU8 (fun i hi h => by have := HI.out.2.2.1 i h; have := HP.out.2.2.2; omega)
        have hfl : L.flatMap entV ++ entV x = (L ++ [x]).flatMap entV := by simp
        have hln : L.length + 1 = (L ++ [x]).length := by simp
        rw [hfl] at hown8
        have HLN := Lib.hid hln
        have hown8' : w8.ownsRow 0 44 34 (.slice a8 (L ++ [x]).length c8) (L ++ [x]).length ((L ++ [x]).flatMap entV) := by rw [← hln]; exact hown8
        have HI8 := Lib.hid (And.intro hR8 (And.intro hown8' (And.intro hge (And.intro hrow8 hU08))))
        have hq8 : w8.cell? ⟨BR, 0, none⟩ = some (.pointer (some ⟨br, 0, none⟩)) := by rw [cell_of_row _ _ _ _ _ _ hrow8]; rfl
        clear hown8 hg8 hat8 hnil8 hge hU8 hrow8 hR8 hU08 hfl hln hown8' hownx hsrc hRx hrow7 hq7 hU7 hBR7 hq6 HJ6
        go_wp2_with fail
        refine hK7.out _ _ (.inr hq8) ?_
        iterate 1
          refine plan_last (v := ?_) rfl rfl (fun w' hS => ?_) ?_
          rotate_left
          · skip
            go_simp; try with_reducible rfl
          simp only [Act.put, List.getElem_toArray, List.getElem_cons_zero, List.getElem_cons_succ, List.setIfInBounds_toArray, List.set_cons_zero, List.set_cons_succ]
        refine plan_end ?_
        rw [HLN.out]
        have HT8 : Hid (entsS n0 s0 = ((L ++ [x]) ++ (entsS m s2).1, (entsS m s2).2)) := Lib.hid (by rw [HT.out, HS1.out]; simp)
        have hLm8 : (L ++ [x]).length + m = n0 := by rw [← HLN.out]; omega
        clear HT HS1 hLm HI hsl HLN hq hq8
        generalize L ++ [x] = L8 at *
        go_wp2_with fail
        go_roundw
        case rel => exact ⟨m, L8, a8, c8, s2, HT8, hLm8, rfl, by first | rfl | go_num, hsl', HI8⟩
        case measure => first | (simp [intOf]; done) | (simp [intOf]; omega)
      · have HTT : Hid (treeRead l = (L, sj)) := Lib.hid (by rw [HE.out.2.2, HT.out, entsS_stop _ _ he]; simp)
        have hbe : (sj.e == 0) = false := by simpa using he
        clear HT
        go_wp2_with fail
        refine herr.mono ?_
        rintro e w' ⟨rfl, rfl⟩
        clear herr hbe
        have hTR := HTT.out
        have hE1 := HE.out.1
        have hE2 := HE.out.2.1
        rw [hTR] at hE1 hE2
        dsimp only at hE1 hE2
        have HX := Lib.hid (And.intro hE1 hE2)
        have hvr := Vw.of_own HI.out.2.1
        have htree := oTree_any ar cr L wr hvr
        clear hTR hE1 hE2 hvr
        go_wp2_with fail
        refine htree.mono ?_
        unfold Packed
        rintro e w9 ⟨a9, c9, rfl, hv9, hf9, hU9⟩
        have hend := orend_any br F sj a a9 c c9 l (treeB L) (treeE L) w9 (HI.out.1.upd hU9 (fun h => h) (fun _ _ h => h)) (HV.out.upd (HI.out.2.2.2.2.trans hU9) (fun _ _ h => h)) hv9
        have hrow9 := (hU9.block BR (lt_of_heap HI.out.2.2.2.1) (fun h => h)).trans HI.out.2.2.2.1
        have hq9 : w9.cell? ⟨BR, 0, none⟩ = some (.pointer (some ⟨br, 0, none⟩)) := by rw [cell_of_row _ _ _ _ _ _ hrow9]; rfl
        have HN := Lib.hid (And.intro ((Vw.of_own HI.out.2.1).upd hU9 (fun _ _ h => h)) (HI.out.2.2.2.2.trans hU9))
        rw [← HX.out.1] at hend
        have HEN := Lib.hid hend
        clear htree hv9 hf9 hU9 hrow9 hend hq
        generalize hTE : ttreeE l = R at *
        have HTE := Lib.hid hTE
        clear hTE
        go_wp2_with fail
        refine HEN.out.mono ?_
        rintro e w10 ⟨rfl, hU⟩
        have HU := Lib.hid (And.intro (HN.out.1.upd hU (fun _ _ h => h)) (HN.out.2.trans hU))
        clear hU hq9
        have hE2 := HX.out.2
        by_cases hr0 : R = 0
        · rw [if_neg (by simpa using hr0)] at hE2
          have HE2 := Lib.hid hE2
          clear hE2
          subst hr0
          go_wp2_with fail
          go_ret2
          rw [HE2.out]
          exact ⟨ar, cr, rfl, HU.out.1, HU.out.2⟩
        · rw [if_pos (by simpa using hr0)] at hE2
          have HE2 := Lib.hid hE2
          have hrb : (R != 0) = true := by simpa using hr0
          clear hE2 hr0
          go_wp2_with fail
          go_ret2
          rw [HE2.out]
          exact ⟨none, 0, rfl, Vw.nl _ _, HU.out.2⟩
end Go.Proofs.YteefceainlfdfaaDoor
