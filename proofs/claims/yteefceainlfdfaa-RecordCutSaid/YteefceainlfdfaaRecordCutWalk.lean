
/- The walk of RecordCut. -/
import Derived.Test.YteefceainlfdfaaCut1
namespace Go.Proofs.Yteefceainlfdfaa
set_option linter.unusedSimpArgs false
set_option linter.unusedVariables false
open Go.ChangeShapes Go.WideShapes Go.ChangeAt Go.RowKit

theorem infoInt : (Try.prog.info? 3).map (fun i => (i.zero, i.size, i.bytes)) = some (some (.int .i64 0), 1, 8) := by kernel_rfl
def endsV (R : List (List UInt8)) (j : Nat) : List Value := (List.range j).map fun i => .int .i64 (totL (R.take (i + 1)) : Int)
theorem endsV_succ (R : List (List UInt8)) (j : Nat) : endsV R (j + 1) = endsV R j ++ [.int .i64 (totL (R.take (j + 1)) : Int)] := by simp [endsV, List.range_succ]
/-- What the first loop has made. -/
structure CutI (B : Nat) (w wr : World) (R : List (List UInt8)) (ab : Option Addr) (cb : Nat) (ae : Option Addr) (ce j : Nat) : Prop where
  ob : wr.ownsRow 0 5 1 (.slice ab (totL (R.take j)) cb) (totL (R.take j)) (bvs (catL (R.take j)))
  oe : wr.ownsRow 0 3 1 (.slice ae j ce) j (endsV R j)
  bb : ∀ g, blk ab = some g → B ≤ g
  be : ∀ g, blk ae = some g → B ≤ g
  ne : ∀ g, blk ab = some g → blk ae ≠ some g
  small : ∀ x ∈ R.take j, x.length ≤ 200
  up : Upd (fun i => B ≤ i) w wr
theorem CutI.step {B : Nat} {w wr w1 w2 w3 : World} {R : List (List UInt8)} {ab ab2 ae ae3 : Option Addr} {cb cb2 ce ce3 j : Nat} {F : List UInt8} (h : CutI B w wr R ab cb ae ce j) (hj : j < R.length) (hx : R[j].length ≤ 200)
    (hF : F = frameL R[j]) (hB : B ≤ wr.heap.size) (hU1 : Upd (fun _ => False) wr w1)
    (ho2 : w2.ownsRow 0 5 1 (.slice ab2 (totL (R.take j) + F.length) cb2) (totL (R.take j) + F.length) (bvs (catL (R.take j)) ++ bvs F)) (hg2 : w1.grownBy w2 (blk ab)) (hat2 : blk ab2 = blk ab ∨ blk ab2 = some w1.heap.size)
    (ho3 : w3.ownsRow 0 3 1 (.slice ae3 (j + 1) ce3) (j + 1) (endsV R j ++ [.int .i64 (totL (R.take (j + 1)) : Int)])) (hg3 : (w2.alloc (.cells #[.int .i64 (totL (R.take (j + 1)) : Int)] 3)).grownBy w3 (blk ae)) (hat3 : blk ae3 = blk ae ∨ blk ae3 = some (w2.heap.size + 1)) :
    CutI B w w3 R ab2 cb2 ae3 ce3 (j + 1) := by
  subst hF
  have z1 := hU1.size
  have hU2 : Upd (fun k => blk ab = some k) w1 w2 := Upd.grown hg2 (fun k hk => hk)
  have z2 := hU2.size
  have hU3 : Upd (fun k => blk ae = some k) w2 w3 := (Upd.alloc _ _ _).trans (Upd.grown hg3 (fun k hk => hk))
  have hae : ∀ k, blk ae = some k → k < wr.heap.size := fun k hk => (h.oe.lt k ((own_blk _ _ _).trans hk)).2
  have hab2 : ∀ k, blk ab2 = some k → k < w2.heap.size := fun k hk => (ho2.lt k ((own_blk _ _ _).trans hk)).2
  have hn2 : ∀ k, blk ab2 = some k → ¬ blk ae = some k := fun k hk e => by
    rcases hat2 with e2 | e2
    · exact h.ne k (e2 ▸ hk) e
    · have := hae k e; rw [e2] at hk; cases hk; omega
  have et := totL_take_succ R j hj
  have ec := catL_take_succ R j hj
  have hl : totL (R.take j) + (frameL R[j]).length = totL (R.take (j + 1)) := by rw [frameL_length, et]
  rw [hl, ← bvs_append, ← ec] at ho2
  refine ⟨ownsRow_upd ho2 hU3 (fun k hk => hn2 k ((own_blk _ _ _).symm.trans hk)), by rw [endsV_succ]; exact ho3, fun g hg => ?_, fun g hg => ?_, fun g hg e => ?_, fun x hx' => ?_, ?_⟩
  · rcases hat2 with e | e
    · exact h.bb g (e ▸ hg)
    · rw [e] at hg; cases hg; omega
  · rcases hat3 with e | e
    · exact h.be g (e ▸ hg)
    · rw [e] at hg; cases hg; omega
  · rcases hat3 with e3 | e3
    · exact hn2 g hg (e3 ▸ e)
    · have := hab2 g hg; rw [e3] at e; cases e; omega
  · rw [List.take_succ_eq_append_getElem hj] at hx'
    rcases List.mem_append.1 hx' with h1 | h1
    · exact h.small x h1
    · simp at h1; subst h1; exact hx
  · exact ((h.up.trans (hU1.mono (fun _ _ h => h.elim))).trans (hU2.mono (fun k _ hk => h.bb k hk))).trans (hU3.mono (fun k _ hk => h.be k hk))
theorem slice_to (a : Option Addr) (c k m : Nat) (w : World) (h : k ≤ m) (hc : m ≤ c) (hcap : c ≤ maxLen) :
    (Instr.slice 22 (.slice a m c) none (some (.int .i64 (k : Int))) none).run Try.prog w = .ok (.slice a k c) w := by
  unfold maxLen at hcap
  obtain ⟨i0, hin, hz0, hz1, hz2⟩ := info_parts infoU8
  go_simp
  try omega

set_option maxRecDepth 100000 in
set_option maxHeartbeats 8000000 in
theorem RecordCut_walk (w : World) (oa : Option Addr) (oc : Nat) (ts : List Tri) (ho : Vw w oa ts.length oc 1 (ts.map cellT)) (he : ∀ t ∈ ts, Vw w t.1 t.2.2.length t.2.1 1 (bvs t.2.2)) (cut : Int) (hcut : (Lit.int .i64 cut).wf = true) :
    Calls Try.prog 4 #[.slice oa ts.length oc, .int .i64 cut] w fun e w' => e = .returned (.bool true) ∧ Below w.heap.size w w' := by
  obtain ⟨i0, hi, hz0, hz1, hz2⟩ := info_parts infoU8
  have HIU := Lib.hid (And.intro hi (And.intro hz0 (And.intro hz1 hz2)))
  clear hi hz0 hz1 hz2 hcut
  obtain ⟨j0, hi, hz0, hz1, hz2⟩ := info_parts infoInt
  have HII := Lib.hid (And.intro hi (And.intro hz0 (And.intro hz1 hz2)))
  clear hi hz0 hz1 hz2
  have hcapo := ho.cap
  have hlco := ho.le
  unfold maxLen at hcapo
  have HO := Lib.hid ho
  have HE := Lib.hid he
  clear ho he
  obtain ⟨B, hB⟩ : ∃ B, w.heap.size = B := ⟨_, rfl⟩
  have HB := Lib.hid hB
  clear hB
  obtain ⟨R, hR⟩ : ∃ R, ts.map (·.2.2) = R := ⟨_, rfl⟩
  have hRl : R.length = ts.length := by rw [← hR]; simp
  have HR := Lib.hid hR
  have HRL := Lib.hid hRl
  clear hR hRl
  go_enter Try.func4, Try.ntmps4
  go_wp2_with fail
  go_loopw [5, 6, 7] (fun v u i wr => ∃ (j : Nat) (ab ae : Option Addr) (cb ce : Nat), j ≤ ts.length ∧ j ≤ 20 ∧ v = .slice ab (totL (R.take j)) cb ∧ u = .slice ae j ce ∧ i = .int .i64 (j : Int) ∧ CutI B w wr R ab cb ae ce j) (fun _ _ i _ => ts.length - (intOf i).toNat)
  case atStart => exact ⟨0, none, none, 0, 0, by omega, by omega, by simp [totL], rfl, rfl, ⟨by simpa [totL, catL, bvs] using World.ownsRow_nil w 0 5 1, by simpa [endsV] using World.ownsRow_nil w 0 3 1, (fun g h => by cases h), (fun g h => by cases h), (fun g h => by cases h), (fun x h => by simp at h), Upd.refl _ _⟩⟩
  case round =>
    obtain ⟨j, ab, ae, cb, ce, hj, hj20, rfl, rfl, rfl, hC⟩ := hrel
    have HC := Lib.hid hC
    have hzB := hC.up.size
    clear hC
    by_cases hlt : j < ts.length
    · have hI : (j : Int) < (ts.length : Int) := by omega
      by_cases hlt20 : j < 20
      · have hI20 : (j : Int) < 20 := by omega
        obtain ⟨bo, oo, hbo, hcell⟩ := (HO.out.upd_ge HC.out.up (Nat.le_of_eq HB.out)).at (by omega) (by decide)
        subst hbo
        have q := hcell j (cellT ts[j]) (by simp [hlt])
        have hv := (HE.out ts[j] (List.getElem_mem _)).upd_ge HC.out.up (Nat.le_of_eq HB.out)
        have hRj : Hid (∃ h : j < R.length, R[j] = ts[j].2.2) := by
          refine ⟨by rw [HRL.out]; exact hlt, ?_⟩
          have := HR.out
          subst this
          simp
        generalize ts[j] = t at *
        obtain ⟨p, r, x⟩ := t
        unfold cellT at q
        simp only at q hv hRj
        have HV := Lib.hid hv
        clear hcell hv
        by_cases hx : 200 < x.length
        · have hdx : (200 : Int) < (x.length : Int) := by omega
          go_wp2_with fail
          refine (awake04_any _).mono ?_
          rintro e w3 ⟨rfl, hU⟩
          go_wp2_with fail
          go_ret
          exact ⟨rfl, (HC.out.up.trans (hU.mono (fun _ _ h => h.elim))).below (Nat.le_refl _) (fun i hi h => by have := HB.out; omega)⟩
        · have hdx : decide ((200 : Int) < (x.length : Int)) = false := by rw [decide_eq_false_iff_not]; omega
          have htot := totL_le (R.take j) 200 HC.out.small
          have hlen := List.length_take_le j R
          have hT : totL (R.take j) ≤ 4160 := by
            have : (R.take j).length * (200 + 8) ≤ 20 * 208 := by
              have : (R.take j).length ≤ 20 := by omega
              omega
            omega
          go_wp2_with fail
          refine (frame_any0 p r x wr HV.out (by omega)).mono ?_
          rintro e w1 ⟨a1, c1, rfl, hown1, hU1, hfr1, hnil1⟩
          have hFl := frameL_length x
          obtain ⟨F, hF⟩ : ∃ F, frameL x = F := ⟨_, rfl⟩
          rw [hF] at hown1 hFl ⊢
          have HF := Lib.hid hF
          have hob1 := ownsRow_upd HC.out.ob hU1 (fun _ _ h => h)
          have hoe1 := ownsRow_upd HC.out.oe hU1 (fun _ _ h => h)
          have hsrc := (Vw.of_own hown1).src (P := Try.prog) (t := 22) Try.underlying22 (bvs_cells F)
          have hFl2 : F.length ≤ 208 := by omega
          have HFL := Lib.hid hFl
          generalize hT0 : totL (R.take j) = T at *
          have HT0 := Lib.hid hT0
          clear hF hown1 hfr1 hnil1 htot hlen hFl hT0
          go_wp2_with (at_builtin; refine wpList_app _ rfl (.tmp 32) (.tmp 37) 22 22 rfl 5 i0 (.int .u8 0) 1 1 Try.underlying22 HIU.out.1 HIU.out.2.1 HIU.out.2.2.1 HIU.out.2.2.2 rfl ab T cb (bvs (catL (R.take j))) rfl hob1 (.slice a1 F.length c1) F.length (bvs F) rfl hsrc ?_ ?_ ?_)
          · unfold maxLen; omega
          · omega
          intro ab2 cb2 w2 hob2 hg2 hat2 hnil2
          have hU2 : Upd (fun k => blk ab = some k) w1 w2 := Upd.grown hg2 (fun k hk => hk)
          have hoe2 := (ownsRow_upd hoe1 hU2 (fun k hk e => HC.out.ne k e ((own_blk _ _ _).symm.trans hk))).alloc (Obj.cells #[.int .i64 ((T + F.length : Nat) : Int)] 3)
          have hnew : (w2.alloc (Obj.cells #[.int .i64 ((T + F.length : Nat) : Int)] 3)).heap[w2.heap.size]? = _ := heap_alloc_new w2 _
          have hsr : Src Try.prog 1 34 (.slice (some ⟨w2.heap.size, 0, none⟩) 1 1) 1 [.int .i64 ((T + F.length : Nat) : Int)] (w2.alloc (Obj.cells #[.int .i64 ((T + F.length : Nat) : Int)] 3)) :=
            Src.ofSlice _ Try.underlying34 _ 1 1 _ rfl (World.news_of_block hnew) (fun u hu => by simp at hu; subst hu; rfl)
          have HA := Lib.hid (And.intro hob2 (And.intro hg2 hat2))
          obtain ⟨T2, hT2⟩ : ∃ T2 : Nat, T + F.length = T2 := ⟨_, rfl⟩
          rw [hT2] at hoe2 hsr ⊢
          have HT2 := Lib.hid hT2
          clear hnew hob2 hg2 hat2 hnil2 hU2 hoe1 hob1 hsrc hT2
          go_wp2_with (at_builtin; refine wpList_app _ rfl (.tmp 39) (.tmp 42) 34 34 rfl 3 j0 (.int .i64 0) 1 8 Try.underlying34 HII.out.1 HII.out.2.1 HII.out.2.2.1 HII.out.2.2.2 rfl ae j ce (endsV R j) rfl hoe2 (.slice (some ⟨w2.heap.size, 0, none⟩) 1 1) 1 _ rfl hsr ?_ ?_ ?_)
          · unfold maxLen; omega
          · omega
          intro ae3 ce3 w3 hoe3 hg3 hat3 hnil3
          obtain ⟨hjR, hRx⟩ := hRj.out
          have hTT : totL (R.take (j + 1)) = T2 := by rw [totL_take_succ R j hjR, HT0.out, hRx, ← HT2.out, HFL.out]
          have hstep := CutI.step (F := F) HC.out hjR (by rw [hRx]; omega) (by rw [hRx, HF.out]) (by have := HB.out; omega) hU1 (by rw [HT0.out]; exact HA.out.1) HA.out.2.1 HA.out.2.2 (by rw [hTT]; exact hoe3) (by rw [hTT]; exact hg3) (by simpa using hat3)
          have HST := Lib.hid hstep
          have HTT := Lib.hid hTT
          clear hoe3 hg3 hat3 hnil3 hstep hsr hoe2 hTT hRx
          go_wp2_with fail
          go_roundw
          case rel => exact ⟨j + 1, ab2, ae3, cb2, ce3, by omega, by omega, by rw [HTT.out], rfl, by first | rfl | go_num, HST.out⟩
          case measure => simp [intOf]; omega
      · have hdI20 : decide ((j : Int) < 20) = false := by rw [decide_eq_false_iff_not]; omega
        have htot := totL_le (R.take j) 200 HC.out.small
        have hlen := List.length_take_le j R
        have hT : totL (R.take j) ≤ 4160 := by
          have : (R.take j).length * (200 + 8) ≤ 20 * 208 := by
            have : (R.take j).length ≤ 20 := by omega
            omega
          omega
        have hob := HC.out.ob
        have hoe := HC.out.oe
        have hsmall : ∀ x ∈ R.take j, x.length ≤ 200000 := fun x hx => by have := HC.out.small x hx; omega
        have hcl := catL_length (R.take j)
        have hscan := fun p => scan_cut (R.take j) p hsmall
        have hends := fun i p h => ends_lt (R.take j) i p h
        have hQl : (R.take j).length = j := by rw [List.length_take]; have := HRL.out; omega
        have hQt : ∀ i, i < j → R.take (i + 1) = (R.take j).take (i + 1) := fun i h => by rw [List.take_take, Nat.min_eq_left (by omega)]
        have hcN := fun p => cutN_le (R.take j) p
        have hQR : ∀ i, i < j → (R.take j)[i]? = (ts[i]?).map (·.2.2) := fun i h => by
          have := HR.out
          subst this
          rw [List.getElem?_take, if_pos h, List.getElem?_map]
        obtain ⟨E, hE⟩ : ∃ E, endsV R j = E := ⟨_, rfl⟩
        have hEg : ∀ i, i < j → E[i]? = some (.int .i64 (totL ((R.take j).take (i + 1)) : Int)) := fun i h => by
          rw [← hE, endsV, List.getElem?_map, List.getElem?_range h, ← hQt i h]; rfl
        rw [hE] at hoe
        generalize R.take j = Q at *
        obtain ⟨T, hTd⟩ : ∃ T, totL Q = T := ⟨_, rfl⟩
        rw [hTd] at hob hcl hT ⊢
        have HTD := Lib.hid hTd
        obtain ⟨p, hp⟩ : ∃ p : Nat, IntKind.u64.wrap cut % ((T : Int) + 1) = (p : Int) := ⟨(IntKind.u64.wrap cut % ((T : Int) + 1)).toNat, by
          have := Int.emod_nonneg (IntKind.u64.wrap cut) (show (T : Int) + 1 ≠ 0 by omega); omega⟩
        have hpT : p ≤ T := by
          have := Int.emod_lt_of_pos (IntKind.u64.wrap cut) (show 0 < (T : Int) + 1 by omega); omega
        have hp5 : (IntKind.u64.wrap cut).tmod ((T : Int) + 1) = (p : Int) := by
          rw [← hp]
          exact Int.tmod_eq_emod_of_nonneg (by show 0 ≤ cut % 18446744073709551616; omega)
        have hTw : IntKind.u64.wrap ((T : Int) + 1) = (T : Int) + 1 := by show ((T : Int) + 1) % 18446744073709551616 = (T : Int) + 1; omega
        have hT0 : (((T : Int) + 1) == 0) = false := by rw [beq_eq_false_iff_ne]; omega
        have hT0' : ¬ ((T : Int) + 1) = 0 := by omega
        have hp3 : (p : Int) < 5000 := by omega
        have hvb := Vw.of_own hob
        have hsl := fun w => slice_to ab cb p T w hpT hvb.le hvb.cap
        have hvp := hvb.pre p hpT
        have hq1 : (bvs (catL Q)).take (p * 1) = bvs ((catL Q).take p) := by rw [Nat.mul_one]; simp [bvs, List.map_take]
        rw [hq1] at hvp
        have hpl : ((catL Q).take p).length = p := by rw [List.length_take]; omega
        have hscp := hscan p (by rw [HTD.out]; exact hpT)
        have hNle := hcN p
        have hendp := fun i h => hends i p h
        obtain ⟨N, hN⟩ : ∃ N, cutN Q p = N := ⟨_, rfl⟩
        rw [hN] at hscp hNle
        simp only [hN] at hendp
        have hsca := scan_any ab cb ((catL Q).take p) wr (by rw [hpl]; exact hvp) (by omega) (fun k hk => (hob.lt k ((own_blk _ _ _).trans hk)).2)
        rw [hpl] at hsca
        have HSC := Lib.hid hscp
        have HEND := Lib.hid hendp
        have HOE := Lib.hid hoe
        have HEG := Lib.hid hEg
        have HQR := Lib.hid hQR
        have HQL := Lib.hid hQl
        have hNj : N ≤ j := by omega
        clear hob hcl hscan hends hcN hQl hQt hQR hEg hvb hvp hq1 hpl hscp hNle hendp hoe hsmall htot hlen hp hE hN hTd
        go_wp2_with fail
        refine hsca.mono ?_
        rintro e w5 ⟨ar, cr, tr, rfl, htr, hRr, hU5⟩
        rw [HSC.out] at htr ⊢
        have htrl : tr.length = N := by
          have := congrArg List.length htr
          simp only [List.length_map, List.length_take] at this
          have h2 := HQL.out
          omega
        have HOE5 := Lib.hid (ownsRow_upd HOE.out hU5 (fun _ _ h => h))
        have hUp5 := HC.out.up.trans (hU5.mono (fun _ _ h => h.elim))
        have HRR := Lib.hid hRr
        have HTR := Lib.hid htr
        have HTRL := Lib.hid htrl
        simp only [htrl]
        obtain ⟨en, hen⟩ : ∃ en, totL (Q.take N) = en := ⟨_, rfl⟩
        rw [hen]
        have HEN := Lib.hid hen
        have HU5 := Lib.hid hUp5
        clear hsca hsl hRr htr htrl hU5 hUp5 hen hp5 hTw hT0 hT0' hp3
        go_wp2_with fail
        go_loopw [11, 12, 13] (fun u v i wx => ∃ k : Nat, k ≤ j ∧ u = .int .i64 ((min k N : Nat) : Int) ∧ v = .int .i64 ((totL (Q.take (min k N)) : Nat) : Int) ∧ i = .int .i64 (k : Int) ∧ Upd (fun _ => False) w5 wx) (fun _ _ i _ => j - (intOf i).toNat)
        case atStart => exact ⟨0, by omega, by simp, by simp [totL], rfl, Upd.refl _ _⟩
        case round =>
          obtain ⟨k, hk, rfl, rfl, rfl, hU⟩ := hrel
          by_cases hkj : k < j
          · have hIk : (k : Int) < (j : Int) := by omega
            have hoe := ownsRow_upd HOE5.out hU (fun _ _ h => h)
            obtain ⟨be, oe, hbe, hcell⟩ := (Vw.of_own hoe).at (by omega) (by decide)
            subst hbe
            have qe := hcell k _ (HEG.out k hkj)
            have hend := HEND.out k (by rw [HQL.out]; exact hkj)
            obtain ⟨ek, hek⟩ : ∃ ek, totL (Q.take (k + 1)) = ek := ⟨_, rfl⟩
            rw [hek] at qe hend
            have HEK := Lib.hid hek
            clear hcell hoe hek
            by_cases hle : ek ≤ p
            · have hlei : (ek : Int) ≤ (p : Int) := by omega
              have hkN : k < N := hend.1 hle
              have HKN := Lib.hid hkN
              clear hend hkN hle
              go_upto_region 17 with (fail)
              refine wp_region_plan_last [] [0, 1, 2, 3, 4, 5, 6, 7] (fun w' => w'.cell? ⟨be, oe + k, none⟩ = some (.int .i64 (ek : Int))) (by kernel_rfl) (by kernel_rfl) ((World.cell?_drew _ _).trans qe) ?_
              iterate 1
                first
                | (refine plan_lskip rfl rfl ?_)
                | (refine plan_last (v := ?_) rfl rfl (fun w' hS => ?_) ?_
                   rotate_left
                   · skip
                     go_simp; try with_reducible rfl)
                simp only [Act.put, List.getElem_toArray, List.getElem_cons_zero, List.getElem_cons_succ, List.setIfInBounds_toArray, List.set_cons_zero, List.set_cons_succ]
              refine plan_last (v := .int .i64 ((k : Int) + 1)) rfl rfl (fun w' hS => ?_) ?_
              · go_simp
                rw [IntWalk.i64_in _ (by omega)]
              simp only [Act.put, List.getElem_toArray, List.getElem_cons_zero, List.getElem_cons_succ, List.setIfInBounds_toArray, List.set_cons_zero, List.set_cons_succ]
              iterate 6
                first
                | (refine plan_lskip rfl rfl ?_)
                | (refine plan_last (v := ?_) rfl rfl (fun w' hS => ?_) ?_
                   rotate_left
                   · skip
                     go_simp; try with_reducible rfl)
                simp only [Act.put, List.getElem_toArray, List.getElem_cons_zero, List.getElem_cons_succ, List.setIfInBounds_toArray, List.set_cons_zero, List.set_cons_succ]
              refine plan_end ?_
              go_wp2_with fail
              go_roundw
              case rel =>
                have h1 : min (k + 1) N = k + 1 := by have := HKN.out; omega
                exact ⟨k + 1, by omega, by rw [h1]; first | rfl | go_num, by rw [h1, HEK.out], by first | rfl | go_num, hU.trans (Upd.drew _ _)⟩
              case measure => simp [intOf]; omega
        
            · have hlei : decide ((ek : Int) ≤ (p : Int)) = false := by rw [decide_eq_false_iff_not]; omega
              have hlei2 : decide (ek ≤ p) = false := decide_eq_false hle
              have hkN : ¬ k < N := fun h => hle (hend.2 h)
              have h1 : min (k + 1) N = min k N := by omega
              have HH1 := Lib.hid h1
              clear hend hkN hle h1
              go_wp2_with fail
              go_roundw
              case rel => exact ⟨k + 1, by omega, by rw [HH1.out], by rw [HH1.out], by first | rfl | go_num, hU⟩
              case measure => simp [intOf]; omega
          · obtain rfl : k = j := by omega
            have hmin : min k N = N := by omega
            rw [hmin]
            rw [HEN.out]
            clear hmin
            have HUw := Lib.hid hU
            clear hU
            go_wp2_with fail
            refine (awake04_any _).mono ?_
            rintro e w6 ⟨rfl, hU6⟩
            have HU6 := Lib.hid (HUw.out.trans hU6)
            clear hU6
            go_wp2_with fail
            go_loopw [14] (fun i wx => ∃ m : Nat, m ≤ N ∧ i = .int .i64 (m : Int) ∧ Upd (fun _ => False) w5 wx) (fun i _ => N - (intOf i).toNat)
            case atStart => exact ⟨0, by omega, rfl, HU6.out⟩
            case round =>
              obtain ⟨m, hm, rfl, hU⟩ := hrel
              by_cases hmN : m < N
              · have hIm : (m : Int) < (N : Int) := by omega
                have hmt : m < ts.length := by omega
                have hIt : (m : Int) < (ts.length : Int) := by omega
                have g1 := HRR.out.upd hU
                have hUa := HU5.out.trans (hU.mono (fun _ _ h => h.elim))
                have hmr : m < tr.length := by rw [HTRL.out]; exact hmN
                obtain ⟨b1, o1, hb1, hcell1⟩ := (Vw.of_own g1.own).at (by omega) (by decide)
                obtain ⟨b2, o2, hb2, hcell2⟩ := (HO.out.upd_ge hUa (Nat.le_of_eq HB.out)).at (by omega) (by decide)
                subst hb1
                subst hb2
                have q1 := hcell1 m (cellT tr[m]) (by simp [hmr])
                have q2 := hcell2 m (cellT ts[m]) (by simp [hmt])
                have v1 := (g1.each tr[m] (List.getElem_mem _)).1
                have v2 := (HE.out ts[m] (List.getElem_mem _)).upd_ge hUa (Nat.le_of_eq HB.out)
                have hxx : tr[m].2.2 = ts[m].2.2 := by
                  have h1 := congrArg (fun l => l[m]?) HTR.out
                  simp only [List.getElem?_map, List.getElem?_take, hmN, if_true] at h1
                  rw [HQR.out m (by omega), List.getElem?_eq_getElem hmr, List.getElem?_eq_getElem hmt] at h1
                  simpa using h1
                generalize tr[m] = t1 at *
                generalize ts[m] = t2 at *
                obtain ⟨p1, r1, x1⟩ := t1
                obtain ⟨p2, r2, x2⟩ := t2
                simp only at hxx v1 v2
                subst hxx
                unfold cellT at q1 q2
                simp only at q1 q2
                have hsb := fun (w' : World) (k1 : Vw w' p1 x1.length r1 1 (bvs x1)) (k2 : Vw w' p2 x1.length r2 1 (bvs x1)) => sBytes_any p1 p2 r1 r2 x1 x1 w' k1 k2
                simp only [beq_self_eq_true] at hsb
                have HV := Lib.hid (And.intro v1 v2)
                clear hcell1 hcell2 g1 v1 v2 hUa
                go_upto_region 23 with (fail)
                refine wp_region_plan_last [([0, 1, 2, 3, 4, 5, 6, 7], 8)] [9] (fun w' => w'.cell? ⟨b1, o1 + m, none⟩ = some (.slice p1 x1.length r1) ∧ w'.cell? ⟨b2, o2 + m, none⟩ = some (.slice p2 x1.length r2)) (by kernel_rfl) (by kernel_rfl) ⟨(World.cell?_drew _ _).trans q1, (World.cell?_drew _ _).trans q2⟩ ?_
                iterate 8
                  first
                  | (refine plan_skip rfl rfl ?_)
                  | (refine plan_take (v := ?_) rfl rfl (fun w' hS => ?_) ?_
                     rotate_left
                     · obtain ⟨hS1, hS2⟩ := hS
                       go_simp; try with_reducible rfl)
                  simp only [Act.put, List.getElem_toArray, List.getElem_cons_zero, List.getElem_cons_succ, List.setIfInBounds_toArray, List.set_cons_zero, List.set_cons_succ]
                refine plan_act rfl (fun KK hKK => ?_)
                go_wp2_with fail
                refine (hsb _ (HV.out.1.upd (Upd.drew (fun _ => False) _) (fun _ _ h => h)) (HV.out.2.upd (Upd.drew (fun _ => False) _) (fun _ _ h => h))).mono ?_
                rintro e w' ⟨rfl, rfl⟩
                go_wp2_with fail
                refine hKK.out _ _ (.inr ⟨(World.cell?_drew _ _).trans q1, (World.cell?_drew _ _).trans q2⟩) ?_
                iterate 1
                  first
                  | (refine plan_lskip rfl rfl ?_)
                  | (refine plan_last (v := ?_) rfl rfl (fun w' hS => ?_) ?_
                     rotate_left
                     · skip
                       go_simp; try with_reducible rfl)
                  simp only [Act.put, List.getElem_toArray, List.getElem_cons_zero, List.getElem_cons_succ, List.setIfInBounds_toArray, List.set_cons_zero, List.set_cons_succ]
                refine plan_end ?_
                go_wp2_with fail
                go_roundw
                case rel => exact ⟨m + 1, by omega, by first | rfl | go_num, hU.trans (Upd.drew _ _)⟩
                case measure => simp [intOf]; omega
        
              · obtain rfl : m = N := by omega
                go_wp2_with fail
                go_ret
                exact ⟨rfl, (HU5.out.trans (hU.mono (fun _ _ h => h.elim))).below (Nat.le_refl _) (fun i hi h => by have := HB.out; omega)⟩

    · have hdI : decide ((j : Int) < (ts.length : Int)) = false := by rw [decide_eq_false_iff_not]; omega
      have htot := totL_le (R.take j) 200 HC.out.small
      have hlen := List.length_take_le j R
      have hT : totL (R.take j) ≤ 4160 := by
        have : (R.take j).length * (200 + 8) ≤ 20 * 208 := by
          have : (R.take j).length ≤ 20 := by omega
          omega
        omega
      have hob := HC.out.ob
      have hoe := HC.out.oe
      have hsmall : ∀ x ∈ R.take j, x.length ≤ 200000 := fun x hx => by have := HC.out.small x hx; omega
      have hcl := catL_length (R.take j)
      have hscan := fun p => scan_cut (R.take j) p hsmall
      have hends := fun i p h => ends_lt (R.take j) i p h
      have hQl : (R.take j).length = j := by rw [List.length_take]; have := HRL.out; omega
      have hQt : ∀ i, i < j → R.take (i + 1) = (R.take j).take (i + 1) := fun i h => by rw [List.take_take, Nat.min_eq_left (by omega)]
      have hcN := fun p => cutN_le (R.take j) p
      have hQR : ∀ i, i < j → (R.take j)[i]? = (ts[i]?).map (·.2.2) := fun i h => by
        have := HR.out
        subst this
        rw [List.getElem?_take, if_pos h, List.getElem?_map]
      obtain ⟨E, hE⟩ : ∃ E, endsV R j = E := ⟨_, rfl⟩
      have hEg : ∀ i, i < j → E[i]? = some (.int .i64 (totL ((R.take j).take (i + 1)) : Int)) := fun i h => by
        rw [← hE, endsV, List.getElem?_map, List.getElem?_range h, ← hQt i h]; rfl
      rw [hE] at hoe
      generalize R.take j = Q at *
      obtain ⟨T, hTd⟩ : ∃ T, totL Q = T := ⟨_, rfl⟩
      rw [hTd] at hob hcl hT ⊢
      have HTD := Lib.hid hTd
      obtain ⟨p, hp⟩ : ∃ p : Nat, IntKind.u64.wrap cut % ((T : Int) + 1) = (p : Int) := ⟨(IntKind.u64.wrap cut % ((T : Int) + 1)).toNat, by
        have := Int.emod_nonneg (IntKind.u64.wrap cut) (show (T : Int) + 1 ≠ 0 by omega); omega⟩
      have hpT : p ≤ T := by
        have := Int.emod_lt_of_pos (IntKind.u64.wrap cut) (show 0 < (T : Int) + 1 by omega); omega
      have hp5 : (IntKind.u64.wrap cut).tmod ((T : Int) + 1) = (p : Int) := by
        rw [← hp]
        exact Int.tmod_eq_emod_of_nonneg (by show 0 ≤ cut % 18446744073709551616; omega)
      have hTw : IntKind.u64.wrap ((T : Int) + 1) = (T : Int) + 1 := by show ((T : Int) + 1) % 18446744073709551616 = (T : Int) + 1; omega
      have hT0 : (((T : Int) + 1) == 0) = false := by rw [beq_eq_false_iff_ne]; omega
      have hT0' : ¬ ((T : Int) + 1) = 0 := by omega
      have hp3 : (p : Int) < 5000 := by omega
      have hvb := Vw.of_own hob
      have hsl := fun w => slice_to ab cb p T w hpT hvb.le hvb.cap
      have hvp := hvb.pre p hpT
      have hq1 : (bvs (catL Q)).take (p * 1) = bvs ((catL Q).take p) := by rw [Nat.mul_one]; simp [bvs, List.map_take]
      rw [hq1] at hvp
      have hpl : ((catL Q).take p).length = p := by rw [List.length_take]; omega
      have hscp := hscan p (by rw [HTD.out]; exact hpT)
      have hNle := hcN p
      have hendp := fun i h => hends i p h
      obtain ⟨N, hN⟩ : ∃ N, cutN Q p = N := ⟨_, rfl⟩
      rw [hN] at hscp hNle
      simp only [hN] at hendp
      have hsca := scan_any ab cb ((catL Q).take p) wr (by rw [hpl]; exact hvp) (by omega) (fun k hk => (hob.lt k ((own_blk _ _ _).trans hk)).2)
      rw [hpl] at hsca
      have HSC := Lib.hid hscp
      have HEND := Lib.hid hendp
      have HOE := Lib.hid hoe
      have HEG := Lib.hid hEg
      have HQR := Lib.hid hQR
      have HQL := Lib.hid hQl
      have hNj : N ≤ j := by omega
      clear hob hcl hscan hends hcN hQl hQt hQR hEg hvb hvp hq1 hpl hscp hNle hendp hoe hsmall htot hlen hp hE hN hTd
      go_wp2_with fail
      refine hsca.mono ?_
      rintro e w5 ⟨ar, cr, tr, rfl, htr, hRr, hU5⟩
      rw [HSC.out] at htr ⊢
      have htrl : tr.length = N := by
        have := congrArg List.length htr
        simp only [List.length_map, List.length_take] at this
        have h2 := HQL.out
        omega
      have HOE5 := Lib.hid (ownsRow_upd HOE.out hU5 (fun _ _ h => h))
      have hUp5 := HC.out.up.trans (hU5.mono (fun _ _ h => h.elim))
      have HRR := Lib.hid hRr
      have HTR := Lib.hid htr
      have HTRL := Lib.hid htrl
      simp only [htrl]
      obtain ⟨en, hen⟩ : ∃ en, totL (Q.take N) = en := ⟨_, rfl⟩
      rw [hen]
      have HEN := Lib.hid hen
      have HU5 := Lib.hid hUp5
      clear hsca hsl hRr htr htrl hU5 hUp5 hen hp5 hTw hT0 hT0' hp3
      go_wp2_with fail
      go_loopw [11, 12, 13] (fun u v i wx => ∃ k : Nat, k ≤ j ∧ u = .int .i64 ((min k N : Nat) : Int) ∧ v = .int .i64 ((totL (Q.take (min k N)) : Nat) : Int) ∧ i = .int .i64 (k : Int) ∧ Upd (fun _ => False) w5 wx) (fun _ _ i _ => j - (intOf i).toNat)
      case atStart => exact ⟨0, by omega, by simp, by simp [totL], rfl, Upd.refl _ _⟩
      case round =>
        obtain ⟨k, hk, rfl, rfl, rfl, hU⟩ := hrel
        by_cases hkj : k < j
        · have hIk : (k : Int) < (j : Int) := by omega
          have hoe := ownsRow_upd HOE5.out hU (fun _ _ h => h)
          obtain ⟨be, oe, hbe, hcell⟩ := (Vw.of_own hoe).at (by omega) (by decide)
          subst hbe
          have qe := hcell k _ (HEG.out k hkj)
          have hend := HEND.out k (by rw [HQL.out]; exact hkj)
          obtain ⟨ek, hek⟩ : ∃ ek, totL (Q.take (k + 1)) = ek := ⟨_, rfl⟩
          rw [hek] at qe hend
          have HEK := Lib.hid hek
          clear hcell hoe hek
          by_cases hle : ek ≤ p
          · have hlei : (ek : Int) ≤ (p : Int) := by omega
            have hkN : k < N := hend.1 hle
            have HKN := Lib.hid hkN
            clear hend hkN hle
            go_upto_region 17 with (fail)
            refine wp_region_plan_last [] [0, 1, 2, 3, 4, 5, 6, 7] (fun w' => w'.cell? ⟨be, oe + k, none⟩ = some (.int .i64 (ek : Int))) (by kernel_rfl) (by kernel_rfl) ((World.cell?_drew _ _).trans qe) ?_
            iterate 1
              first
              | (refine plan_lskip rfl rfl ?_)
              | (refine plan_last (v := ?_) rfl rfl (fun w' hS => ?_) ?_
                 rotate_left
                 · skip
                   go_simp; try with_reducible rfl)
              simp only [Act.put, List.getElem_toArray, List.getElem_cons_zero, List.getElem_cons_succ, List.setIfInBounds_toArray, List.set_cons_zero, List.set_cons_succ]
            refine plan_last (v := .int .i64 ((k : Int) + 1)) rfl rfl (fun w' hS => ?_) ?_
            · go_simp
              rw [IntWalk.i64_in _ (by omega)]
            simp only [Act.put, List.getElem_toArray, List.getElem_cons_zero, List.getElem_cons_succ, List.setIfInBounds_toArray, List.set_cons_zero, List.set_cons_succ]
            iterate 6
              first
              | (refine plan_lskip rfl rfl ?_)
              | (refine plan_last (v := ?_) rfl rfl (fun w' hS => ?_) ?_
                 rotate_left
                 · skip
                   go_simp; try with_reducible rfl)
              simp only [Act.put, List.getElem_toArray, List.getElem_cons_zero, List.getElem_cons_succ, List.setIfInBounds_toArray, List.set_cons_zero, List.set_cons_succ]
            refine plan_end ?_
            go_wp2_with fail
            go_roundw
            case rel =>
              have h1 : min (k + 1) N = k + 1 := by have := HKN.out; omega
              exact ⟨k + 1, by omega, by rw [h1]; first | rfl | go_num, by rw [h1, HEK.out], by first | rfl | go_num, hU.trans (Upd.drew _ _)⟩
            case measure => simp [intOf]; omega
      
          · have hlei : decide ((ek : Int) ≤ (p : Int)) = false := by rw [decide_eq_false_iff_not]; omega
            have hlei2 : decide (ek ≤ p) = false := decide_eq_false hle
            have hkN : ¬ k < N := fun h => hle (hend.2 h)
            have h1 : min (k + 1) N = min k N := by omega
            have HH1 := Lib.hid h1
            clear hend hkN hle h1
            go_wp2_with fail
            go_roundw
            case rel => exact ⟨k + 1, by omega, by rw [HH1.out], by rw [HH1.out], by first | rfl | go_num, hU⟩
            case measure => simp [intOf]; omega
        · obtain rfl : k = j := by omega
          have hmin : min k N = N := by omega
          rw [hmin]
          rw [HEN.out]
          clear hmin
          have HUw := Lib.hid hU
          clear hU
          go_wp2_with fail
          refine (awake04_any _).mono ?_
          rintro e w6 ⟨rfl, hU6⟩
          have HU6 := Lib.hid (HUw.out.trans hU6)
          clear hU6
          go_wp2_with fail
          go_loopw [14] (fun i wx => ∃ m : Nat, m ≤ N ∧ i = .int .i64 (m : Int) ∧ Upd (fun _ => False) w5 wx) (fun i _ => N - (intOf i).toNat)
          case atStart => exact ⟨0, by omega, rfl, HU6.out⟩
          case round =>
            obtain ⟨m, hm, rfl, hU⟩ := hrel
            by_cases hmN : m < N
            · have hIm : (m : Int) < (N : Int) := by omega
              have hmt : m < ts.length := by omega
              have hIt : (m : Int) < (ts.length : Int) := by omega
              have g1 := HRR.out.upd hU
              have hUa := HU5.out.trans (hU.mono (fun _ _ h => h.elim))
              have hmr : m < tr.length := by rw [HTRL.out]; exact hmN
              obtain ⟨b1, o1, hb1, hcell1⟩ := (Vw.of_own g1.own).at (by omega) (by decide)
              obtain ⟨b2, o2, hb2, hcell2⟩ := (HO.out.upd_ge hUa (Nat.le_of_eq HB.out)).at (by omega) (by decide)
              subst hb1
              subst hb2
              have q1 := hcell1 m (cellT tr[m]) (by simp [hmr])
              have q2 := hcell2 m (cellT ts[m]) (by simp [hmt])
              have v1 := (g1.each tr[m] (List.getElem_mem _)).1
              have v2 := (HE.out ts[m] (List.getElem_mem _)).upd_ge hUa (Nat.le_of_eq HB.out)
              have hxx : tr[m].2.2 = ts[m].2.2 := by
                have h1 := congrArg (fun l => l[m]?) HTR.out
                simp only [List.getElem?_map, List.getElem?_take, hmN, if_true] at h1
                rw [HQR.out m (by omega), List.getElem?_eq_getElem hmr, List.getElem?_eq_getElem hmt] at h1
                simpa using h1
              generalize tr[m] = t1 at *
              generalize ts[m] = t2 at *
              obtain ⟨p1, r1, x1⟩ := t1
              obtain ⟨p2, r2, x2⟩ := t2
              simp only at hxx v1 v2
              subst hxx
              unfold cellT at q1 q2
              simp only at q1 q2
              have hsb := fun (w' : World) (k1 : Vw w' p1 x1.length r1 1 (bvs x1)) (k2 : Vw w' p2 x1.length r2 1 (bvs x1)) => sBytes_any p1 p2 r1 r2 x1 x1 w' k1 k2
              simp only [beq_self_eq_true] at hsb
              have HV := Lib.hid (And.intro v1 v2)
              clear hcell1 hcell2 g1 v1 v2 hUa
              go_upto_region 23 with (fail)
              refine wp_region_plan_last [([0, 1, 2, 3, 4, 5, 6, 7], 8)] [9] (fun w' => w'.cell? ⟨b1, o1 + m, none⟩ = some (.slice p1 x1.length r1) ∧ w'.cell? ⟨b2, o2 + m, none⟩ = some (.slice p2 x1.length r2)) (by kernel_rfl) (by kernel_rfl) ⟨(World.cell?_drew _ _).trans q1, (World.cell?_drew _ _).trans q2⟩ ?_
              iterate 8
                first
                | (refine plan_skip rfl rfl ?_)
                | (refine plan_take (v := ?_) rfl rfl (fun w' hS => ?_) ?_
                   rotate_left
                   · obtain ⟨hS1, hS2⟩ := hS
                     go_simp; try with_reducible rfl)
                simp only [Act.put, List.getElem_toArray, List.getElem_cons_zero, List.getElem_cons_succ, List.setIfInBounds_toArray, List.set_cons_zero, List.set_cons_succ]
              refine plan_act rfl (fun KK hKK => ?_)
              go_wp2_with fail
              refine (hsb _ (HV.out.1.upd (Upd.drew (fun _ => False) _) (fun _ _ h => h)) (HV.out.2.upd (Upd.drew (fun _ => False) _) (fun _ _ h => h))).mono ?_
              rintro e w' ⟨rfl, rfl⟩
              go_wp2_with fail
              refine hKK.out _ _ (.inr ⟨(World.cell?_drew _ _).trans q1, (World.cell?_drew _ _).trans q2⟩) ?_
              iterate 1
                first
                | (refine plan_lskip rfl rfl ?_)
                | (refine plan_last (v := ?_) rfl rfl (fun w' hS => ?_) ?_
                   rotate_left
                   · skip
                     go_simp; try with_reducible rfl)
                simp only [Act.put, List.getElem_toArray, List.getElem_cons_zero, List.getElem_cons_succ, List.setIfInBounds_toArray, List.set_cons_zero, List.set_cons_succ]
              refine plan_end ?_
              go_wp2_with fail
              go_roundw
              case rel => exact ⟨m + 1, by omega, by first | rfl | go_num, hU.trans (Upd.drew _ _)⟩
              case measure => simp [intOf]; omega
      
            · obtain rfl : m = N := by omega
              go_wp2_with fail
              go_ret
              exact ⟨rfl, (HU5.out.trans (hU.mono (fun _ _ h => h.elim))).below (Nat.le_refl _) (fun i hi h => by have := HB.out; omega)⟩

end Go.Proofs.Yteefceainlfdfaa
