
/- The walk of RecordTurned. -/
import Derived.Test.YteefceainlfdfaaRecordBehindWalk
namespace Go.Proofs.Yteefceainlfdfaa
set_option linter.unusedSimpArgs false
set_option linter.unusedVariables false
open Go.ChangeShapes Go.WideShapes Go.ChangeAt Go.RowKit

theorem u8_xor_val (x y : UInt8) : bits BinOp.xor IntKind.u8 (x.toNat : Int) (y.toNat : Int) = ((x ^^^ y).toNat : Int) := by
  rw [u8_xor_nat _ _ x.toNat_lt y.toNat_lt, UInt8.toNat_xor]
theorem first_record {ts : List Tri} {x : List UInt8} {R : List (List UInt8)} (h : ts.map (·.2.2) = x :: R) : ∃ p q ts', ts = (p, q, x) :: ts' := by
  match ts, h with
  | (p, q, u) :: ts', h => simp at h; obtain ⟨rfl, h⟩ := h; exact ⟨p, q, ts', rfl⟩

set_option maxRecDepth 100000 in
set_option maxHeartbeats 8000000 in
theorem RecordTurned_walk (w : World) (aa : Option Addr) (ac : Nat) (a : List UInt8) (ha : Vw w aa a.length ac 1 (bvs a)) (hab : ∀ k, blk aa = some k → k < w.heap.size)
    (ba : Option Addr) (bc : Nat) (b : List UInt8) (hb : Vw w ba b.length bc 1 (bvs b)) (hbb : ∀ k, blk ba = some k → k < w.heap.size) (at' : Int) (hat : (Lit.int .i64 at').wf = true) (by' : Int) (hby0 : (Lit.int .u8 by').wf = true) :
    Calls Try.prog 6 #[.slice aa a.length ac, .slice ba b.length bc, .int .i64 at', .int .u8 by'] w fun e w' => e = .returned (.bool true) ∧ Below w.heap.size w w' := by
  have hby := bounds_u8 hby0
  clear hat hby0
  obtain ⟨x, rfl⟩ : ∃ x : UInt8, by' = (x.toNat : Int) := ⟨UInt8.ofNat by'.toNat, by rw [UInt8.toNat_ofNat']; omega⟩
  obtain ⟨i0, hi, hz0, hz1, hz2⟩ := info_parts infoU8
  have HIU := Lib.hid (And.intro hi (And.intro hz0 (And.intro hz1 hz2)))
  clear hi hz0 hz1 hz2 hby
  go_enter Try.func6, Try.ntmps6
  by_cases h1 : 200 < a.length
  · have hd : decide (200 < (a.length : Int)) = true := by simp; omega
    go_wp2_with fail
    refine (awake04_any w).mono ?_
    rintro e w3 ⟨rfl, hU⟩
    go_wp2_with fail
    go_ret
    exact ⟨rfl, hU.clean⟩
  have hd1 : decide (200 < (a.length : Int)) = false := by simp; omega
  by_cases h2 : 200 < b.length
  · have hd : decide (200 < (b.length : Int)) = true := by simp; omega
    go_wp2_with fail
    refine (awake04_any w).mono ?_
    rintro e w3 ⟨rfl, hU⟩
    go_wp2_with fail
    go_ret
    exact ⟨rfl, hU.clean⟩
  have hd2 : decide (200 < (b.length : Int)) = false := by simp; omega
  by_cases h3 : x.toNat = 0
  · have hd : ((x.toNat : Int) == 0) = true := by rw [h3]; rfl
    clear h3
    go_wp2_with fail
    refine (awake04_any w).mono ?_
    rintro e w3 ⟨rfl, hU⟩
    go_wp2_with fail
    go_ret
    exact ⟨rfl, hU.clean⟩
  have hd3 : ((x.toNat : Int) == 0) = false := by rw [beq_eq_false_iff_ne]; omega
  clear h3
  have HAB := Lib.hid hab
  have HBB := Lib.hid hbb
  clear hab hbb
  go_wp2_with fail
  refine (frame_any aa ac a w ha (by omega) (fun k hk => HAB.out k hk)).mono ?_
  rintro e w1 ⟨a1, c1, rfl, hown1, hU1, hfr1, hnil1⟩
  have hl1 := frameL_length a
  have hsca := fun r => scan_frame a r (by omega)
  have hb1 := hb.upd hU1 (fun _ _ h => h)
  have ha1 := ha.upd hU1 (fun _ _ h => h)
  have hz1 := hU1.size
  generalize frameL a = F1 at *
  have HSCA := Lib.hid hsca
  have HL1 := Lib.hid hl1
  have HO1 := Lib.hid hown1
  have HLT1 := Lib.hid (fun k (hk : blk a1 = some k) => (hown1.lt k ((own_blk _ _ _).trans hk)).2)
  have hF1l : F1.length ≤ 208 := by omega
  clear ha hb hl1 hown1 hfr1 hnil1 hsca
  go_wp2_with fail
  refine (frame_any ba bc b w1 hb1 (by omega) (fun k hk => by have := HBB.out k hk; omega)).mono ?_
  rintro e w2 ⟨a2, c2, rfl, hown2, hU2, hfr2, hnil2⟩
  have hl2 := frameL_length b
  have ha2 := ha1.upd hU2 (fun _ _ h => h)
  have hz2 := hU2.size
  have hU02 := hU1.trans hU2
  have hox2 := ownsRow_upd HO1.out hU2 (fun _ _ h => h)
  generalize frameL b = F2 at *
  obtain ⟨g2, hg2⟩ : ∃ g, a2 = some ⟨g, 0, none⟩ := by
    rcases hown2.2 with ⟨h, h'⟩ | ⟨g, cap, cur, h, _⟩
    · omega
    · simp only [Value.slice.injEq] at h
      exact ⟨g, h.1⟩
  subst hg2
  have hg2ge := hfr2 g2 rfl
  have hg2lt := (hown2.lt g2 rfl).2
  obtain ⟨M, hM⟩ : ∃ M : Nat, M = b.length + 4 := ⟨_, rfl⟩
  obtain ⟨p, hp⟩ : ∃ p : Nat, IntKind.u64.wrap at' % (M : Int) = (p : Int) := ⟨(IntKind.u64.wrap at' % (M : Int)).toNat, by
    have := Int.emod_nonneg (IntKind.u64.wrap at') (show (M : Int) ≠ 0 by omega); omega⟩
  have hpM : p < M := by
    have := Int.emod_lt_of_pos (IntKind.u64.wrap at') (show 0 < (M : Int) by omega); omega
  have hp5 : (IntKind.u64.wrap at').tmod (M : Int) = (p : Int) := by
    rw [← hp]
    exact Int.tmod_eq_emod_of_nonneg (by show 0 ≤ at' % 18446744073709551616; omega)
  have hlen : ((F2.length : Int) != (b.length : Int) + 8) = false := by simp; omega
  have hM4 : (F2.length : Int) - 4 = (M : Int) := by omega
  have hMw : IntKind.u64.wrap (M : Int) = (M : Int) := by show (M : Int) % 18446744073709551616 = (M : Int); omega
  have hM0 : ((M : Int) == 0) = false := by rw [beq_eq_false_iff_ne]; omega
  have hM0' : ¬ (M : Int) = 0 := by omega
  have hp3 : (p : Int) < 300 := by omega
  have hk1 : (4 : Int) + (p : Int) < (F2.length : Int) := by omega
  have hk2 : ((4 : Int) + (p : Int)).toNat = 4 + p := by omega
  have hcell : w2.cell? ⟨g2, 4 + p, none⟩ = some (.int .u8 ((F2.getD (4 + p) 0).toNat : Int)) := by
    rw [hown2.cellAt (4 + p) (by omega)]
    simp [bvs, bv, List.getElem?_eq_getElem (show 4 + p < F2.length by omega)]
  have hth := hown2.frozenAt (4 + p)
  have hxv := u8_xor_val (F2.getD (4 + p) 0) x
  obtain ⟨hst, hgr⟩ := hown2.stored (4 + p) (bv (F2.getD (4 + p) 0 ^^^ x))
  have hse : (bvs F2).set (4 + p) (bv (F2.getD (4 + p) 0 ^^^ x)) = bvs (F2.set (4 + p) (F2.getD (4 + p) 0 ^^^ x)) := by simp [bvs, List.map_set]
  rw [hse] at hst
  have hYl : (F2.set (4 + p) (F2.getD (4 + p) 0 ^^^ x)).length = F2.length := by simp
  generalize F2.set (4 + p) (F2.getD (4 + p) 0 ^^^ x) = Y at *
  unfold bv at hst hgr
  generalize (F2.getD (4 + p) 0 ^^^ x).toNat = v at *
  generalize (F2.getD (4 + p) 0).toNat = v0 at *
  have hU3 : Upd (fun k => k = g2) w2 (w2.setCell ⟨g2, 4 + p, none⟩ (.int .u8 (v : Int))) := Upd.setCell (S := fun k => k = g2) w2 rfl _
  have hox3 := ownsRow_upd hox2 hU3 (fun k hk e => by have := HLT1.out k ((own_blk _ _ _).symm.trans hk); omega)
  have ha3 := ha2.upd hU3 (fun k hk e => by have := HAB.out k hk; omega)
  have hU03 := hU02.next hU3 (fun i hi e => by omega)
  have hz3 := hU3.size
  have HOX3 := Lib.hid (And.intro hox3 hst)
  have HYL := Lib.hid hYl
  have HG2 := Lib.hid (And.intro hg2ge hg2lt)
  have hYl2 : F2.length ≤ 208 := by omega
  clear ha1 ha2 hb1 hU1 hU2 hU02 hox2 hown2 hfr2 hnil2 hp hU3 hox3 hst hgr hse HO1 hYl hM hg2ge hl2
  go_upto_region 9 with (fail)
  generalize w2.setCell ⟨g2, 4 + p, none⟩ (.int .u8 (v : Int)) = w3 at *
  clear hcell hth hp5 hM4 hMw hM0 hM0' hp3 hk1 hk2 hxv hlen
  have hYL := HYL.out
  rw [← hYL] at HOX3 hYl2 ⊢
  clear hYL HYL
  have hUn : Upd (fun _ => False) w3 w3 := Upd.refl _ _
  have hoxy1 := And.intro (ownsRow_upd HOX3.out.1 hUn (fun _ _ h => h)) (ownsRow_upd HOX3.out.2 hUn (fun _ _ h => h))
  have hzp1 := hUn.size
  have hsx1 := (Vw.of_own hoxy1.1).src (P := Try.prog) (t := 22) Try.underlying22 (bvs_cells F1)
  have HXY1 := Lib.hid hoxy1
  clear hoxy1
  go_wp2_with (at_builtin; refine wpList_app _ rfl (.const (.slice none 0 0)) (.tmp 56) 22 22 rfl 5 i0 (.int .u8 0) 1 1 Try.underlying22 HIU.out.1 HIU.out.2.1 HIU.out.2.2.1 HIU.out.2.2.2 rfl none 0 0 [] rfl (World.ownsRow_nil _ _ _ _) (.slice a1 F1.length c1) F1.length (bvs F1) rfl hsx1 ?_ ?_ ?_)
  · unfold maxLen; omega
  · omega
  intro ac1 cc1 wc1 howc1 hgc1 hac1 hnc1
  have hUc1 := Upd.grown (S := fun _ => False) hgc1 (fun k hk => by cases hk)
  try simp only [Nat.zero_add, List.nil_append] at howc1 ⊢
  have hge1 : ∀ g, blk ac1 = some g → w3.heap.size ≤ g := fun g hg => by
    rcases hac1 with h | h
    · rw [h] at hg; cases hg
    · rw [h] at hg; cases hg; omega
  have hsy1 := (Vw.of_own (ownsRow_upd HXY1.out.2 hUc1 (fun _ _ h => h))).src (P := Try.prog) (t := 22) Try.underlying22 (bvs_cells Y)
  clear hsx1 hgc1 hac1 hnc1
  go_wp2_with (at_builtin; refine wpList_app _ rfl (.tmp 57) (.tmp 58) 22 22 rfl 5 i0 (.int .u8 0) 1 1 Try.underlying22 HIU.out.1 HIU.out.2.1 HIU.out.2.2.1 HIU.out.2.2.2 rfl ac1 F1.length cc1 (bvs F1) rfl howc1 (.slice (some ⟨g2, 0, none⟩) Y.length c2) Y.length (bvs Y) rfl hsy1 ?_ ?_ ?_)
  · unfold maxLen; omega
  · omega
  intro ad1 cd1 wd1 howd1 hgd1 had1 hnd1
  have hUd1 := Upd.grown (S := fun k => blk ac1 = some k) hgd1 (fun k hk => hk)
  have hUe1 := hUc1.next hUd1 (fun k hk e => by have := hge1 k e; omega)
  rw [← bvs_append, ← List.length_append] at howd1
  have hsc1 := scan_any ad1 cd1 (F1 ++ Y) wd1 (Vw.of_own howd1) (by rw [List.length_append]; omega) (fun k hk => (howd1.lt k ((own_blk _ _ _).trans hk)).2)
  rw [List.length_append] at hsc1
  clear hsy1 howc1 howd1 hgd1 had1 hnd1 hUc1 hUd1 hge1
  go_wp2_with fail
  refine hsc1.mono ?_
  rintro e w1s ⟨ar1, cr1, ts1, rfl, hts1, hRR1, hUf1⟩
  have HTS1 := Lib.hid hts1
  have HR1 := Lib.hid hRR1.rows
  have hU1s := hUe1.trans hUf1
  clear hts1 hRR1 hUe1 hUf1 hsc1

  have hoxy2 := And.intro (ownsRow_upd HOX3.out.1 hU1s (fun _ _ h => h)) (ownsRow_upd HOX3.out.2 hU1s (fun _ _ h => h))
  have hzp2 := hU1s.size
  have hsx2 := (Vw.of_own hoxy2.1).src (P := Try.prog) (t := 22) Try.underlying22 (bvs_cells F1)
  have HXY2 := Lib.hid hoxy2
  clear hoxy2
  go_wp2_with (at_builtin; refine wpList_app _ rfl (.const (.slice none 0 0)) (.tmp 64) 22 22 rfl 5 i0 (.int .u8 0) 1 1 Try.underlying22 HIU.out.1 HIU.out.2.1 HIU.out.2.2.1 HIU.out.2.2.2 rfl none 0 0 [] rfl (World.ownsRow_nil _ _ _ _) (.slice a1 F1.length c1) F1.length (bvs F1) rfl hsx2 ?_ ?_ ?_)
  · unfold maxLen; omega
  · omega
  intro ac2 cc2 wc2 howc2 hgc2 hac2 hnc2
  have hUc2 := Upd.grown (S := fun _ => False) hgc2 (fun k hk => by cases hk)
  try simp only [Nat.zero_add, List.nil_append] at howc2 ⊢
  have hge2 : ∀ g, blk ac2 = some g → w1s.heap.size ≤ g := fun g hg => by
    rcases hac2 with h | h
    · rw [h] at hg; cases hg
    · rw [h] at hg; cases hg; omega
  have hsy2 := (Vw.of_own (ownsRow_upd HXY2.out.2 hUc2 (fun _ _ h => h))).src (P := Try.prog) (t := 22) Try.underlying22 (bvs_cells Y)
  clear hsx2 hgc2 hac2 hnc2
  go_wp2_with (at_builtin; refine wpList_app _ rfl (.tmp 65) (.tmp 66) 22 22 rfl 5 i0 (.int .u8 0) 1 1 Try.underlying22 HIU.out.1 HIU.out.2.1 HIU.out.2.2.1 HIU.out.2.2.2 rfl ac2 F1.length cc2 (bvs F1) rfl howc2 (.slice (some ⟨g2, 0, none⟩) Y.length c2) Y.length (bvs Y) rfl hsy2 ?_ ?_ ?_)
  · unfold maxLen; omega
  · omega
  intro ad2 cd2 wd2 howd2 hgd2 had2 hnd2
  have hUd2 := Upd.grown (S := fun k => blk ac2 = some k) hgd2 (fun k hk => hk)
  have hUe2 := hUc2.next hUd2 (fun k hk e => by have := hge2 k e; omega)
  rw [← bvs_append, ← List.length_append] at howd2
  have hsc2 := refScan_any ad2 cd2 (F1 ++ Y) wd2 (Vw.of_own howd2) (by rw [List.length_append]; omega) (fun k hk => (howd2.lt k ((own_blk _ _ _).trans hk)).2)
  rw [List.length_append] at hsc2
  clear hsy2 howc2 howd2 hgd2 had2 hnd2 hUc2 hUd2 hge2
  go_wp2_with fail
  refine hsc2.mono ?_
  rintro e w2s ⟨ar2, cr2, ts2, rfl, hts2, hRR2, hUf2⟩
  have HTS2 := Lib.hid hts2
  have HR2 := Lib.hid hRR2.rows
  have hU2s := hUe2.trans hUf2
  clear hts2 hRR2 hUe2 hUf2 hsc2

  go_wp2_with fail
  refine (awake04_any _).mono ?_
  rintro e wA ⟨rfl, hUA⟩
  have HR := Lib.hid (And.intro (HR1.out.upd (hU2s.trans hUA)) (HR2.out.upd hUA))
  obtain ⟨q1, q2, ts', hts'⟩ := first_record (HTS1.out.trans (by rw [HSCA.out Y]))
  have HTSS := Lib.hid hts'
  clear hts'
  have hwA := hU1s.trans (hU2s.trans hUA)
  have haA := ha3.upd hwA (fun _ _ h => h)
  have hU0A := hU03.trans hwA
  clear ha3 hU03 hUA hwA hU1s hU2s hUn
  go_wp2_with fail
  refine (sameBB_any 0 0 ar1 ar2 cr1 cr2 ts1 ts2 wA HR.out.1 HR.out.2 (by rw [HTS1.out, HTS2.out])).mono ?_
  rintro e wB ⟨rfl, hUB⟩
  have hR1 := HR.out.1.upd hUB
  have hts' := HTSS.out
  subst hts'
  have hv1 := (hR1.each (q1, q2, a) (by simp)).1
  obtain ⟨br, o, hbo, hcell⟩ := (Vw.of_own hR1.own).at (by simp) (by decide)
  subst hbo
  have k0 := hcell 0 (cellT (q1, q2, a)) (by simp)
  rw [Nat.add_zero] at k0
  unfold cellT at k0
  simp only at hv1 k0
  have hlen1 : (1 : Int) ≤ (((q1, q2, a) :: ts').length : Int) := by simp; omega
  have hlen2 : (0 : Int) < (((q1, q2, a) :: ts').length : Int) := by omega
  generalize ((q1, q2, a) :: ts').length = nts at *
  have haB := haA.upd hUB (fun _ _ h => h)
  have hU0B := hU0A.trans hUB
  have haa : (a == a) = true := by simp
  have HV1 := Lib.hid hv1
  clear hcell hR1 haA hUB hU0A hv1
  go_wp2_with fail
  refine (sBytes_any q1 aa q2 ac a a wB HV1.out haB).mono ?_
  rintro e wC ⟨rfl, rfl⟩
  rw [haa]
  go_wp2_with fail
  go_ret
  exact ⟨rfl, hU0B.clean⟩
end Go.Proofs.Yteefceainlfdfaa
