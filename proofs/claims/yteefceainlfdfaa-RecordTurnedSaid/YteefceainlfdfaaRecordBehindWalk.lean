
/- The walk of RecordBehind. -/
import Derived.Test.YteefceainlfdfaaRecordTellsWalk
namespace Go.Proofs.Yteefceainlfdfaa
set_option linter.unusedSimpArgs false
set_option linter.unusedVariables false
open Go.ChangeShapes Go.WideShapes Go.ChangeAt Go.RowKit

theorem two_records {ts : List Tri} {x y : List UInt8} (h : ts.map (·.2.2) = [x, y]) : ∃ p q r s, ts = [(p, q, x), (r, s, y)] := by
  match ts, h with
  | [(p, q, u), (r, s, v)], h => simp at h; obtain ⟨rfl, rfl⟩ := h; exact ⟨p, q, r, s, rfl⟩
theorem scan_two (a b : List UInt8) (ha : a.length ≤ 200000) (hb : b.length ≤ 200000) : scanL (frameL a ++ frameL b) = ([a, b], a.length + b.length + 16) := by
  have h := scan_frame b [] hb
  rw [List.append_nil, scan_short [] (by decide)] at h
  rw [scan_frame a (frameL b) ha, h]
  simp
  omega

set_option maxRecDepth 100000 in
set_option maxHeartbeats 4000000 in
theorem RecordBehind_walk (w : World) (aa : Option Addr) (ac : Nat) (a : List UInt8) (ha : Vw w aa a.length ac 1 (bvs a)) (hab : ∀ k, blk aa = some k → k < w.heap.size)
    (ba : Option Addr) (bc : Nat) (b : List UInt8) (hb : Vw w ba b.length bc 1 (bvs b)) (hbb : ∀ k, blk ba = some k → k < w.heap.size) :
    Calls Try.prog 5 #[.slice aa a.length ac, .slice ba b.length bc] w fun e w' => e = .returned (.bool true) ∧ Below w.heap.size w w' := by
  obtain ⟨i0, hi, hz0, hz1, hz2⟩ := info_parts infoU8
  have HIU := Lib.hid (And.intro hi (And.intro hz0 (And.intro hz1 hz2)))
  clear hi hz0 hz1 hz2
  go_enter Try.func5, Try.ntmps5
  by_cases h1 : 300 < a.length
  · have hd : decide (300 < (a.length : Int)) = true := by simp; omega
    go_wp2_with fail
    refine (awake04_any w).mono ?_
    rintro e w3 ⟨rfl, hU⟩
    go_wp2_with fail
    go_ret
    exact ⟨rfl, hU.clean⟩
  have hd1 : decide (300 < (a.length : Int)) = false := by simp; omega
  by_cases h2 : 300 < b.length
  · have hd : decide (300 < (b.length : Int)) = true := by simp; omega
    go_wp2_with fail
    refine (awake04_any w).mono ?_
    rintro e w3 ⟨rfl, hU⟩
    go_wp2_with fail
    go_ret
    exact ⟨rfl, hU.clean⟩
  have hd2 : decide (300 < (b.length : Int)) = false := by simp; omega
  have HAB := Lib.hid hab
  have HBB := Lib.hid hbb
  clear hab hbb
  go_wp2_with fail
  refine (frame_any aa ac a w ha (by omega) (fun k hk => HAB.out k hk)).mono ?_
  rintro e w1 ⟨a1, c1, rfl, hown1, hU1, hfr1, hnil1⟩
  have hl1 := frameL_length a
  have hsc2 := scan_two a b (by omega) (by omega)
  have HSC := Lib.hid hsc2
  have hb1 := hb.upd hU1 (fun _ _ h => h)
  have ha1 := ha.upd hU1 (fun _ _ h => h)
  have hz1 := hU1.size
  obtain ⟨F1, hF1⟩ : ∃ F, frameL a = F := ⟨_, rfl⟩
  have HF1 := Lib.hid hF1
  rw [hF1] at hown1 hl1 ⊢
  have hsrc1 := (Vw.of_own hown1).src (P := Try.prog) (t := 22) Try.underlying22 (bvs_cells F1)
  have HL1 := Lib.hid hl1
  have HO1 := Lib.hid hown1
  have HLT1 := Lib.hid (fun k (hk : blk a1 = some k) => (hown1.lt k ((own_blk _ _ _).trans hk)).2)
  have hF1l : F1.length ≤ 308 := by omega
  clear ha hb hsc2 hF1 hl1 hown1 hfr1 hnil1
  go_wp2_with (at_builtin; refine wpList_app _ rfl (.const (.slice none 0 0)) (.tmp 24) 22 22 rfl 5 i0 (.int .u8 0) 1 1 Try.underlying22 HIU.out.1 HIU.out.2.1 HIU.out.2.2.1 HIU.out.2.2.2 rfl none 0 0 [] rfl (World.ownsRow_nil _ _ _ _) (.slice a1 F1.length c1) F1.length (bvs F1) rfl hsrc1 ?_ ?_ ?_)
  · unfold maxLen; omega
  · omega
  intro a2 c2 w2 hown2 hg2 hat2 hnil2
  have hU2 := Upd.grown (S := fun _ => False) hg2 (fun k hk => by cases hk)
  try simp only [Nat.zero_add, List.nil_append] at hown2 ⊢
  have hge2 : ∀ g, blk a2 = some g → w1.heap.size ≤ g := fun g hg => by
    rcases hat2 with h | h
    · rw [h] at hg; cases hg
    · rw [h] at hg; cases hg; omega
  have HGE := Lib.hid hge2
  have hb2 := hb1.upd hU2 (fun _ _ h => h)
  have ha2 := ha1.upd hU2 (fun _ _ h => h)
  have hz2 := hU2.size
  have hU02 := hU1.trans hU2
  have HO2 := Lib.hid (And.intro (ownsRow_upd HO1.out hU2 (fun _ _ h => h)) hown2)
  clear hsrc1 hg2 hat2 hnil2 hU1 hU2 ha1 hb1 HO1 hown2 hge2
  go_wp2_with fail
  refine (frame_any ba bc b w2 hb2 (by omega) (fun k hk => by have := HBB.out k hk; omega)).mono ?_
  rintro e w3 ⟨a3, c3, rfl, hown3, hU3, hfr3, hnil3⟩
  have hl2 := frameL_length b
  obtain ⟨F2, hF2⟩ : ∃ F, frameL b = F := ⟨_, rfl⟩
  rw [hF2] at hown3 hl2 ⊢
  have hscF : Hid (scanL (F1 ++ F2) = ([a, b], a.length + b.length + 16)) := by
    have := HSC.out
    rw [HF1.out, hF2] at this
    exact this
  have HF2 := Lib.hid hF2
  have hF2l : F2.length ≤ 308 := by omega
  have hb3 := hb2.upd hU3 (fun _ _ h => h)
  have ha3 := ha2.upd hU3 (fun _ _ h => h)
  have hz3 := hU3.size
  have hU03 := hU02.trans hU3
  have hox3 := ownsRow_upd HO2.out.1 hU3 (fun _ _ h => h)
  have hoc3 := ownsRow_upd HO2.out.2 hU3 (fun _ _ h => h)
  have hsrc3 := (Vw.of_own hown3).src (P := Try.prog) (t := 22) Try.underlying22 (bvs_cells F2)
  have hx1ne : ∀ k, blk a1 = some k → blk a2 ≠ some k := fun k hk e => by
    have h1 := HLT1.out k hk
    have h2 := HGE.out k e
    omega
  clear hb2 ha2 hU02 hU3 hown3 hfr3 hnil3 hF2 hl2
  go_wp2_with (at_builtin; refine wpList_app _ rfl (.tmp 25) (.tmp 27) 22 22 rfl 5 i0 (.int .u8 0) 1 1 Try.underlying22 HIU.out.1 HIU.out.2.1 HIU.out.2.2.1 HIU.out.2.2.2 rfl a2 F1.length c2 (bvs F1) rfl hoc3 (.slice a3 F2.length c3) F2.length (bvs F2) rfl hsrc3 ?_ ?_ ?_)
  · unfold maxLen; omega
  · omega
  intro a4 c4 w4 hown4 hg4 hat4 hnil4
  have hU4 := Upd.grown (S := fun k => blk a2 = some k) hg4 (fun k hk => hk)
  have hox4 := ownsRow_upd hox3 hU4 (fun k hk => hx1ne k ((own_blk _ _ _).symm.trans hk))
  have hb4 := hb3.upd hU4 (fun k hk e => by have := HBB.out k hk; have := HGE.out k e; omega)
  have ha4 := ha3.upd hU4 (fun k hk e => by have := HAB.out k hk; have := HGE.out k e; omega)
  have hU04 := hU03.next hU4 (fun k hk e => by have := HGE.out k e; omega)
  have hz4 := hU4.size
  rw [← bvs_append, ← List.length_append] at hown4
  have hsc := scan_any a4 c4 (F1 ++ F2) w4 (Vw.of_own hown4) (by rw [List.length_append]; omega) (fun k hk => (hown4.lt k ((own_blk _ _ _).trans hk)).2)
  rw [List.length_append] at hsc
  have HOX4 := Lib.hid hox4
  clear hsrc3 hox3 hoc3 hx1ne hown4 hg4 hat4 hnil4 hU4 hb3 ha3 hU03 hox4
  go_wp2_with fail
  refine hsc.mono ?_
  rintro e w5 ⟨ar, cr, ts, rfl, hts, hR5, hU5⟩
  rw [hscF.out] at hts ⊢
  obtain ⟨p1, q1, p2, q2, rfl⟩ := two_records hts
  have hv1 := (hR5.each (p1, q1, a) (by simp)).1
  have hv2 := (hR5.each (p2, q2, b) (by simp)).1
  obtain ⟨br, o, hbo, hcell⟩ := (Vw.of_own hR5.own).at (by simp) (by decide)
  subst hbo
  have k0 := hcell 0 (cellT (p1, q1, a)) (by simp)
  have k1 := hcell 1 (cellT (p2, q2, b)) (by simp)
  rw [Nat.add_zero] at k0
  unfold cellT at k0 k1
  simp only [List.length_cons, List.length_nil, Nat.zero_add, Nat.reduceAdd] at hv1 hv2 ⊢
  have hU05 := hU04.trans hU5
  have hb5 := hb4.upd hU5 (fun _ _ h => h)
  have ha5 := ha4.upd hU5 (fun _ _ h => h)
  have hz5 := hU5.size
  have HOX5 := Lib.hid (ownsRow_upd HOX4.out hU5 (fun _ _ h => h))
  clear hcell hR5 hts hU5 hU04 hsc hb4 ha4 HOX4
  go_wp2_with fail
  refine (awake04_any w5).mono ?_
  rintro e w6 ⟨rfl, hU6⟩
  have hU06 := hU05.trans hU6
  have hb6 := hb5.upd hU6 (fun _ _ h => h)
  have ha6 := ha5.upd hU6 (fun _ _ h => h)
  have hz6 := hU6.size
  have HOX6 := Lib.hid (ownsRow_upd HOX5.out hU6 (fun _ _ h => h))
  have hv1' := hv1.upd hU6 (fun _ _ h => h)
  have hv2' := hv2.upd hU6 (fun _ _ h => h)
  have k0' := (hU6.cell (World.block_lt_of_cell? _ _ k0) (fun h => h)).trans k0
  have k1' := (hU6.cell (World.block_lt_of_cell? _ _ k1) (fun h => h)).trans k1
  have hne : (((a.length + b.length + 16 : Nat) : Int) != (a.length : Int) + (b.length : Int) + 16) = false := by simp
  have HV := Lib.hid (And.intro hv1' hv2')
  clear hU6 hU05 hb5 ha5 HOX5 hv1 hv2 k0 k1 hv1' hv2'
  go_wp2_with fail
  refine (sBytes_any p1 aa q1 ac a a w6 HV.out.1 ha6).mono ?_
  rintro e w7 ⟨rfl, rfl⟩
  have haa : (a == a) = true := by simp
  have hbb2 : (b == b) = true := by simp
  rw [haa]
  go_wp2_with fail
  refine (sBytes_any p2 ba q2 bc b b w6 HV.out.2 hb6).mono ?_
  rintro e w7 ⟨rfl, rfl⟩
  rw [hbb2]
  clear haa hbb2 k0' k1'
  have hl0 : ((F1.length : Int) == 0) = false := by have := HL1.out; rw [beq_eq_false_iff_ne]; omega
  have hvx := Vw.of_own HOX6.out
  have hsl : ∀ w, (Instr.slice 22 (.slice a1 F1.length c1) (some (.int .i64 1)) none none).run Try.prog w = .ok (.slice (if c1 = 1 then a1 else a1.map (·.add (1 * 1))) (F1.length - 1) (c1 - 1)) w := fun w => slice_from a1 c1 1 F1.length w (by have := HL1.out; omega) hvx.le hvx.cap hvx.nil
  have hvp := hvx.post 1 (by have := HL1.out; omega)
  have hq1 : (bvs F1).drop (1 * 1) = bvs (F1.drop 1) := by simp [bvs, List.map_drop]
  have hq2 : F1.length - 1 = (F1.drop 1).length := by simp
  rw [hq1] at hvp
  have hblk : ∀ k, blk (if c1 = 1 then a1 else a1.map (·.add (1 * 1))) = some k → blk a1 = some k := fun k hk => blk_add hk
  have HBK := Lib.hid hblk
  generalize (if c1 = 1 then a1 else a1.map (·.add (1 * 1))) = a' at *
  rw [hq2] at hvp hsl
  have hd1l : (F1.drop 1).length ≤ 1000 := by simp; omega
  generalize hD : F1.drop 1 = D at *
  clear hq1 hq2 hblk hD
  have hlt' : ∀ k, blk a' = some k → k < w6.heap.size := fun k hk => by have := HLT1.out k (HBK.out k hk); omega
  have HLT' := Lib.hid hlt'
  clear hlt' hvx
  go_wp2_with fail
  refine (scan_any a' (c1 - 1) D w6 hvp (by omega) HLT'.out).mono ?_
  rintro e w7 ⟨ar7, cr7, ts7, rfl, hts7, hR7, hU7⟩
  have hvp7 := hvp.upd hU7 (fun _ _ h => h)
  have hU07 := hU06.trans hU7
  have hz7 := hU7.size
  clear hvp hU06
  go_wp2_with fail
  refine (refScan_any a' (c1 - 1) D w7 hvp7 (by omega) (fun k hk => by have := HLT'.out k hk; omega)).mono ?_
  rintro e w8 ⟨ar8, cr8, ts8, rfl, hts8, hR8, hU8⟩
  have hU08 := hU07.trans hU8
  have HTS := Lib.hid (hts7.trans hts8.symm)
  have HRR := Lib.hid (And.intro (hR7.rows.upd hU8) hR8.rows)
  clear hvp7 hU07 hts7 hts8 hR7 hR8 hU8
  go_wp2_with fail
  refine (sameBB_any 0 0 ar7 ar8 cr7 cr8 ts7 ts8 w8 HRR.out.1 HRR.out.2 HTS.out).mono ?_
  rintro e w9 ⟨rfl, hU9⟩
  have hlx : ((F1.length : Int) == (a.length : Int) + 8) = true := by have := HL1.out; simp; omega
  go_wp2_with fail
  go_ret
  exact ⟨rfl, (hU08.trans hU9).clean⟩
end Go.Proofs.Yteefceainlfdfaa
