
/- Lists of records, held against each other; awake of layer 4; what frames, one behind the other, are read as. -/
import Derived.Test.YteefceainlfdfaaRec6
import Derived.Lib.SlBytesConst
namespace Go.Proofs.Yteefceainlfdfaa
set_option linter.unusedSimpArgs false
set_option linter.unusedVariables false
open Go.ChangeShapes Go.WideShapes Go.ChangeAt Go.RowKit

set_option maxRecDepth 100000 in
set_option maxHeartbeats 4000000 in
theorem sameBB_any (B1 B2 : Nat) (a1 a2 : Option Addr) (c1 c2 : Nat) (ts1 ts2 : List Tri) (w : World) (h1 : Recs B1 w a1 c1 ts1) (h2 : Recs B2 w a2 c2 ts2) (he : ts1.map (·.2.2) = ts2.map (·.2.2)) :
    Calls Try.prog 16 #[.slice a1 ts1.length c1, .slice a2 ts2.length c2, .func (.func 13) #[] #[]] w fun e w' => e = .returned (.bool true) ∧ Upd (fun _ => False) w w' := by
  have hlen : ts2.length = ts1.length := by have := congrArg List.length he; simpa using this.symm
  have hv1 := Vw.of_own h1.own
  have hv2 := Vw.of_own h2.own
  have hcap1 := hv1.cap
  have hlc1 := hv1.le
  unfold maxLen at hcap1
  rw [hlen] at hv2 ⊢
  have H1 := Lib.hid h1
  have H2 := Lib.hid h2
  have HE := Lib.hid he
  have HL := Lib.hid hlen
  clear h1 h2 he hlen
  go_enter Try.func16, Try.ntmps16
  go_wp2_with fail
  go_loopw [7] (fun i wr => ∃ j : Nat, j ≤ ts1.length ∧ i = .int .i64 (j : Int) ∧ Upd (fun _ => False) w wr) (fun i _ => ts1.length - (intOf i).toNat)
  case atStart => exact ⟨0, Nat.zero_le _, rfl, Upd.refl _ _⟩
  case round =>
    obtain ⟨j, hj, rfl, hU⟩ := hrel
    by_cases hlt : j < ts1.length
    · have hlt2 : j < ts2.length := by have := HL.out; omega
      have g1 := H1.out.upd hU
      have g2 := H2.out.upd hU
      obtain ⟨b1, o1, hb1, hcell1⟩ := (hv1.upd hU (fun _ _ h => h)).at (by omega) (by decide)
      obtain ⟨b2, o2, hb2, hcell2⟩ := (hv2.upd hU (fun _ _ h => h)).at (by omega) (by decide)
      subst hb1
      subst hb2
      have q1 := hcell1 j (cellT ts1[j]) (by simp [hlt])
      have q2 := hcell2 j (cellT ts2[j]) (by simp [hlt2])
      have v1 := (g1.each ts1[j] (List.getElem_mem _)).1
      have v2 := (g2.each ts2[j] (List.getElem_mem _)).1
      have hx : ts1[j].2.2 = ts2[j].2.2 := by
        have := congrArg (fun l => l[j]?) HE.out
        simpa [hlt, hlt2] using this
      generalize ts1[j] = t1 at *
      generalize ts2[j] = t2 at *
      obtain ⟨p1, r1, x1⟩ := t1
      obtain ⟨p2, r2, x2⟩ := t2
      simp only at hx v1 v2
      subst hx
      unfold cellT at q1 q2
      simp only at q1 q2
      have hI : (j : Int) < (ts1.length : Int) := by omega
      have hsb := fun (w' : World) (k1 : Vw w' p1 x1.length r1 1 (bvs x1)) (k2 : Vw w' p2 x1.length r2 1 (bvs x1)) => sBytes_any p1 p2 r1 r2 x1 x1 w' k1 k2
      simp only [beq_self_eq_true] at hsb
      have HV := Lib.hid (And.intro v1 v2)
      clear hcell1 hcell2 g1 g2 v1 v2
      go_upto_region 6 with (fail)
      refine wp_region_plan_last [([0, 1, 2, 3, 4, 5, 6, 7, 8], 9)] [10] (fun w' => w'.cell? ⟨b1, o1 + j, none⟩ = some (.slice p1 x1.length r1) ∧ w'.cell? ⟨b2, o2 + j, none⟩ = some (.slice p2 x1.length r2)) (by kernel_rfl) (by kernel_rfl) ⟨(World.cell?_drew _ _).trans q1, (World.cell?_drew _ _).trans q2⟩ ?_
      iterate 9
        first
        | (refine plan_skip rfl rfl ?_)
        | (refine plan_take (v := ?_) rfl rfl (fun w' hS => ?_) ?_
           rotate_left
           · obtain ⟨hS1, hS2⟩ := hS
             go_simp; try with_reducible rfl)
        simp only [Act.put, List.getElem_toArray, List.getElem_cons_zero, List.getElem_cons_succ, List.setIfInBounds_toArray, List.set_cons_zero, List.set_cons_succ]
      refine plan_act rfl (fun KK hKK => ?_)
      go_wp2_with fail
      refine (hsb _ (HV.out.1.upd (Upd.drew (fun _ => False) _) (fun _ _ h => h)) (HV.out.2.upd (Upd.drew (fun _ => False) _) (fun _ _ h => h))).mono ?_
      rintro e w' ⟨rfl, rfl⟩
      go_wp2_with fail
      refine hKK.out _ _ (.inr ⟨(World.cell?_drew _ _).trans q1, (World.cell?_drew _ _).trans q2⟩) ?_
      iterate 1
        first
        | (refine plan_lskip rfl rfl ?_)
        | (refine plan_last (v := ?_) rfl rfl (fun w' hS => ?_) ?_
           rotate_left
           · skip
             go_simp; try with_reducible rfl)
        simp only [Act.put, List.getElem_toArray, List.getElem_cons_zero, List.getElem_cons_succ, List.setIfInBounds_toArray, List.set_cons_zero, List.set_cons_succ]
      refine plan_end ?_
      go_wp2_with fail
      go_roundw
      case rel => exact ⟨j + 1, by omega, by first | rfl | go_num, hU.trans (Upd.drew _ _)⟩
      case measure => simp [intOf]; omega

    · obtain rfl : j = ts1.length := by omega
      go_wp2_with fail
      go_ret
      exact ⟨rfl, hU⟩

/-! What frames are read as. -/
theorem leN_le4 (x : Nat) (h : x < 4294967296) : leN (le x 4) = x := by
  rw [leN_le, show (256 : Nat) ^ 4 = 4294967296 from by decide, Nat.mod_eq_of_lt h]
theorem next_frame (b r : List UInt8) (hb : b.length ≤ 200000) : nextL (frameL b ++ r) = some b := by
  have h4 : (le b.length 4).length = 4 := le_length _ _
  have h4' : (le (sum32L b) 4).length = 4 := le_length _ _
  have e1 : (frameL b ++ r).take 4 = le b.length 4 := by
    unfold frameL
    rw [List.append_assoc, List.append_assoc, List.take_append_of_le_length (by omega), List.take_of_length_le (by omega)]
  have e2 : ((frameL b ++ r).drop 4).take 4 = le (sum32L b) 4 := by
    unfold frameL
    rw [List.append_assoc, List.append_assoc, List.drop_append_of_le_length (by omega), List.drop_of_length_le (by omega), List.nil_append, List.take_append_of_le_length (by omega), List.take_of_length_le (by omega)]
  have e3 : ((frameL b ++ r).drop 8).take b.length = b := by
    unfold frameL
    have h8 : (le b.length 4 ++ le (sum32L b) 4).length = 8 := by rw [List.length_append, h4, h4']
    rw [List.append_assoc (le b.length 4 ++ le (sum32L b) 4), List.drop_append_of_le_length (by omega), List.drop_of_length_le (by omega), List.nil_append, List.take_append_of_le_length (by omega), List.take_of_length_le (by omega)]
  have hs : sizeL (frameL b ++ r) = b.length := by unfold sizeL; rw [e1, leN_le4 _ (by omega)]
  have hd : saidL (frameL b ++ r) = sum32L b := by unfold saidL; rw [e2, leN_le4 _ (sum32_lt b)]
  have hl : (frameL b ++ r).length = b.length + 8 + r.length := by rw [List.length_append, frameL_length]
  unfold nextL
  rw [hs, hd, e3, hl, if_neg]
  intro h
  rcases h with h | h | h | h
  · omega
  · omega
  · omega
  · exact h rfl
theorem scan_frame (b r : List UInt8) (hb : b.length ≤ 200000) : scanL (frameL b ++ r) = (b :: (scanL r).1, 8 + b.length + (scanL r).2) := by
  rw [scan_some (next_frame b r hb), show (frameL b ++ r).drop (8 + b.length) = r from by rw [List.drop_append_of_le_length (by rw [frameL_length]; omega), List.drop_of_length_le (by rw [frameL_length]; omega), List.nil_append]]
theorem scan_short (r : List UInt8) (h : r.length < 8) : scanL r = ([], 0) := scan_none (by unfold nextL; rw [if_pos (.inl h)])

end Go.Proofs.Yteefceainlfdfaa
