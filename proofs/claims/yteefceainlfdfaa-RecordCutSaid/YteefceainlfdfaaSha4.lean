
/- SHA-256, a block, as the program mixes it in. -/
import Derived.Test.YteefceainlfdfaaSha3
namespace Go.Proofs.Yteefceainlfdfaa
set_option linter.unusedSimpArgs false
set_option linter.unusedVariables false
open Go.ChangeShapes Go.WideShapes Go.ChangeAt Go.RowKit

/-- What a block's mixing keeps: the first words, the words so far, the result's place, the table. -/
structure Mixed (w : World) (g0 g1 g2 tb : Nat) (h s K : List Int) (wx : World) : Prop where
  ah : Arr wx g0 58 h
  ax : Arr wx g1 58 s
  ar : Arr wx g2 58 (List.replicate 8 0)
  ak : Arr wx tb 60 K
  up : Upd (fun i => w.heap.size ≤ i) w wx
theorem index_arr64 (cs : Array Value) (hn : cs.size = 64) (k : Nat) (v : Value) (hv : cs[k]? = some v) (w : World) :
    (Instr.index 60 (.agg cs) (.int .i64 (k : Int))).run Try.prog w = .ok v w := by
  obtain ⟨hk, hv⟩ := Array.getElem?_eq_some_iff.1 hv
  have h3 : (k : Int) < 64 := by omega
  have h4 : k < 64 := by omega
  simp [Instr.index, asIntOf, h3, h4, hk, hv, part]
  try omega
theorem Mixed.drew {w : World} {g0 g1 g2 tb : Nat} {h s K : List Int} {wx : World} (F : Mixed w g0 g1 g2 tb h s K wx) : Mixed w g0 g1 g2 tb h s K wx.drew :=
  ⟨F.ah, F.ax, F.ar, F.ak, F.up.trans (Upd.drew _ _)⟩
theorem Mixed.upd {w : World} {g0 g1 g2 tb : Nat} {h s K : List Int} {wx wy : World} (F : Mixed w g0 g1 g2 tb h s K wx) (hw : w.heap.size ≤ wx.heap.size) (hU : Upd (fun _ => False) wx wy) : Mixed w g0 g1 g2 tb h s K wy :=
  ⟨F.ah.upd hU (fun h => h), F.ax.upd hU (fun h => h), F.ar.upd hU (fun h => h), F.ak.upd hU (fun h => h), F.up.trans (hU.mono (fun _ _ h => h.elim))⟩

set_option maxRecDepth 100000 in
set_option maxHeartbeats 40000000 in
theorem mix_any (h s K : List Int) (a : Option Addr) (c tb : Nat) (l : List UInt8) (w : World) (hv : Vw w a 64 c 1 (bvs l)) (hl : l.length = 64) (hh : h.length = 8) (hs : s.length = 8) (hK : K.length = 64) (hlb : ∀ b, blk a = some b → b < w.heap.size)
    (hT : Arr w tb 60 K) :
    Calls Try.prog 33 #[.agg (h.map uv).toArray, .agg (s.map uv).toArray, .slice a 64 c, .pointer (some ⟨tb, 0, none⟩)] w fun e w' => e = .returned (.agg ((addW h (roundsI K (wordsW l) s 64) 8).map uv).toArray) ∧ Upd (fun _ => False) w w' := by
  have htb := hT.lt
  obtain ⟨H0, hH0⟩ : ∃ H0, (h.map uv).toArray = H0 := ⟨_, rfl⟩
  obtain ⟨S0, hS0⟩ : ∃ S0, (s.map uv).toArray = S0 := ⟨_, rfl⟩
  rw [hH0, hS0]
  have HH0 := Lib.hid hH0
  have HS0 := Lib.hid hS0
  clear hH0 hS0
  go_enter Try.func33, Try.ntmps33
  go_upto_region 1 with (fail)
  obtain ⟨w4, hw4⟩ : ∃ w4, (((w.alloc (Obj.cells H0 58)).alloc (Obj.cells S0 58)).alloc (Obj.cells #[.int .u32 0, .int .u32 0, .int .u32 0, .int .u32 0, .int .u32 0, .int .u32 0, .int .u32 0, .int .u32 0] 58)) = w4 := ⟨_, rfl⟩
  rw [hw4]
  generalize hg2 : w.heap.size + 1 + 1 = g2
  generalize hg1 : w.heap.size + 1 = g1
  generalize hg0 : w.heap.size = g0
  have hF : Mixed w g0 g1 g2 tb h s K w4 := by
    rw [← hw4, ← HH0.out, ← HS0.out]
    subst hg0 hg1 hg2
    exact ⟨((Arr.new w 58 h).alloc _).alloc _,
      (Arr.new' (w.alloc (Obj.cells (h.map uv).toArray 58)) 58 s _ (by simp)).alloc _,
      (Arr.new' ((w.alloc (Obj.cells (h.map uv).toArray 58)).alloc (Obj.cells (s.map uv).toArray 58)) 58 (List.replicate 8 0) _ (by simp)),
      ((hT.alloc _).alloc _).alloc _,
      ((Upd.alloc _ _ _).trans (Upd.alloc _ _ _)).trans (Upd.alloc _ _ _)⟩
  have hlt01 : g0 < g1 := by omega
  have hlt12 : g1 < g2 := by omega
  have hNg : tb < g0 := by omega
  have HG := Lib.hid (And.intro hlt01 (And.intro hlt12 (And.intro hNg hg0)))
  have hv4 : Vw w4 a 64 c 1 (bvs l) := hv.upd hF.up (fun k hk => by have := hlb k hk; omega)
  have hz4 := hF.up.size
  have hlb4 : ∀ b, blk a = some b → b < w4.heap.size := fun b hb => by have := hlb b hb; omega
  clear hg1 hg2 hg0 hlt01 hlt12 hNg hw4 htb
  go_wp2_with fail
  refine (spread_any a c l w4 hv4 hl hlb4).mono ?_
  rintro e w5 ⟨rfl, hU5⟩
  have hF5 := hF.upd hz4 hU5
  clear hF hv4 hz4 hlb4 hU5
  have hW : ∀ n, n < 64 → ((wordsW l).map uv).toArray[n]? = some (.int .u32 ((wordsW l).getD n 0)) := fun n hn => by
    have := wordsW_length l
    simp [List.getElem?_eq_getElem (show n < (wordsW l).length by omega), uv]
  have hWs : ((wordsW l).map uv).toArray.size = 64 := by simp [wordsW_length]
  generalize ((wordsW l).map uv).toArray = W0 at *
  generalize hww : wordsW l = ws at *
  have HWW := Lib.hid hww
  have HW := Lib.hid (And.intro hW hWs)
  clear hww hW hWs
  go_wp2_with fail
  have hi8 : (Try.prog.info? 58).map (·.size) = some 8 := by kernel_rfl
  go_loopw [18] (fun i wx => ∃ n : Nat, n ≤ 64 ∧ i = .int .i64 (n : Int) ∧ Mixed w g0 g1 g2 tb h (roundsI K ws s n) K wx) (fun i _ => 64 - (intOf i).toNat)
  case atStart => exact ⟨0, by omega, rfl, hF5⟩
  case round =>
    clear hF5
    obtain ⟨n, hn, rfl, hF⟩ := hrel
    have hsl := roundsI_length K ws s n
    rw [hs] at hsl
    by_cases hlt : n < 64
    · obtain ⟨sa, sb, sc, sd, se, sf, sg, sh, hst⟩ := eight hsl
      have hS := hF.ax
      rw [hst] at hS
      have hnew : roundI (K.getD n 0) (ws.getD n 0) [sa, sb, sc, sd, se, sf, sg, sh] = roundsI K ws s (n + 1) := by rw [roundsI, hst]
      have hI : (n : Int) < 64 := by omega
      have hix := fun w => index_arr64 W0 HW.out.2 n _ (HW.out.1 n hlt) w
      have s0 : wr.cell? ⟨g1, 0, none⟩ = some (.int .u32 sa) := hS.cell 0 (by show 0 < 8; decide)
      have s1 : wr.cell? ⟨g1, 1, none⟩ = some (.int .u32 sb) := hS.cell 1 (by show 1 < 8; decide)
      have s2 : wr.cell? ⟨g1, 2, none⟩ = some (.int .u32 sc) := hS.cell 2 (by show 2 < 8; decide)
      have s3 : wr.cell? ⟨g1, 3, none⟩ = some (.int .u32 sd) := hS.cell 3 (by show 3 < 8; decide)
      have s4 : wr.cell? ⟨g1, 4, none⟩ = some (.int .u32 se) := hS.cell 4 (by show 4 < 8; decide)
      have s5 : wr.cell? ⟨g1, 5, none⟩ = some (.int .u32 sf) := hS.cell 5 (by show 5 < 8; decide)
      have s6 : wr.cell? ⟨g1, 6, none⟩ = some (.int .u32 sg) := hS.cell 6 (by show 6 < 8; decide)
      have s7 : wr.cell? ⟨g1, 7, none⟩ = some (.int .u32 sh) := hS.cell 7 (by show 7 < 8; decide)
      have kc := hF.ak.cell n (by omega)
      generalize K.getD n 0 = kn at *
      generalize ws.getD n 0 = wn at *
      have HNEW := Lib.hid hnew
      clear hnew hst hsl hlt
      obtain ⟨y1, hy1⟩ : ∃ y1, bigS0 sa = y1 := ⟨_, rfl⟩
      have HY1 := Lib.hid hy1
      clear hy1
      obtain ⟨x1, hx1⟩ : ∃ x1, bigS1 se = x1 := ⟨_, rfl⟩
      have HX1 := Lib.hid hx1
      clear hx1
      obtain ⟨ne, hne⟩ : ∃ ne, notI se = ne := ⟨_, rfl⟩
      have HNE := Lib.hid hne
      clear hne
      obtain ⟨ch, hch⟩ : ∃ ch, chI se sf sg = ch := ⟨_, rfl⟩
      have HCH := Lib.hid hch
      clear hch
      obtain ⟨pp, hpp⟩ : ∃ pp, m32 (sh + x1 + ch + kn + wn) = pp := ⟨_, rfl⟩
      have HPP := Lib.hid hpp
      clear hpp
      go_upto_region 4 with (fail)
      refine wp_region_plan_last [([0, 1, 3, 4, 7, 8], 2), ([], 5), ([6], 9)] [10, 11] (fun w' => w'.cell? ⟨g1, 0, none⟩ = some (.int .u32 sa) ∧ w'.cell? ⟨g1, 1, none⟩ = some (.int .u32 sb) ∧ w'.cell? ⟨g1, 2, none⟩ = some (.int .u32 sc) ∧ w'.cell? ⟨g1, 3, none⟩ = some (.int .u32 sd) ∧ w'.cell? ⟨g1, 4, none⟩ = some (.int .u32 se) ∧ w'.cell? ⟨g1, 5, none⟩ = some (.int .u32 sf) ∧ w'.cell? ⟨g1, 6, none⟩ = some (.int .u32 sg) ∧ w'.cell? ⟨g1, 7, none⟩ = some (.int .u32 sh) ∧ w'.cell? ⟨tb, n, none⟩ = some (.int .u32 kn)) (by kernel_rfl) (by kernel_rfl) ⟨s0, s1, s2, s3, s4, s5, s6, s7, kc⟩ ?_
      iterate 6
        refine plan_take (v := ?_) rfl rfl (fun w' hS => ?_) ?_
        rotate_left
        · obtain ⟨hS0, hS1, hS2, hS3, hS4, hS5, hS6, hS7, hS8⟩ := hS
          go_simp; try with_reducible rfl
        simp only [Act.put, List.getElem_toArray, List.getElem_cons_zero, List.getElem_cons_succ, List.setIfInBounds_toArray, List.set_cons_zero, List.set_cons_succ]
      refine plan_act rfl (fun KK hKK => ?_)
      go_wp2_with fail
      refine (right_any sa 2 wr.drew (by decide) (by decide)).mono ?_
      rintro e w' ⟨rfl, rfl⟩
      unfold uv
      go_wp2_with fail
      refine hKK.out _ _ (.inr ⟨s0, s1, s2, s3, s4, s5, s6, s7, kc⟩) ?_
      refine plan_act rfl (fun KK hKK => ?_)
      go_wp2_with fail
      refine (right_any sa 13 wr.drew (by decide) (by decide)).mono ?_
      rintro e w' ⟨rfl, rfl⟩
      unfold uv
      go_wp2_with fail
      refine hKK.out _ _ (.inr ⟨s0, s1, s2, s3, s4, s5, s6, s7, kc⟩) ?_
      iterate 1
        refine plan_take (v := ?_) rfl rfl (fun w' hS => ?_) ?_
        rotate_left
        · skip
          go_simp; try with_reducible rfl
        simp only [Act.put, List.getElem_toArray, List.getElem_cons_zero, List.getElem_cons_succ, List.setIfInBounds_toArray, List.set_cons_zero, List.set_cons_succ]
      refine plan_act rfl (fun KK hKK => ?_)
      go_wp2_with fail
      refine (right_any sa 22 wr.drew (by decide) (by decide)).mono ?_
      rintro e w' ⟨rfl, rfl⟩
      unfold uv
      go_wp2_with fail
      refine hKK.out _ _ (.inr ⟨s0, s1, s2, s3, s4, s5, s6, s7, kc⟩) ?_
      refine plan_last (v := .int .u32 y1) rfl rfl (fun w' hS => ?_) ?_
      · skip
        go_simp
        rw [← HY1.out]
        rfl
      simp only [Act.put, List.getElem_toArray, List.getElem_cons_zero, List.getElem_cons_succ, List.setIfInBounds_toArray, List.set_cons_zero, List.set_cons_succ]
      iterate 1
        refine plan_last (v := ?_) rfl rfl (fun w' hS => ?_) ?_
        rotate_left
        · skip
          go_simp; try with_reducible rfl
        simp only [Act.put, List.getElem_toArray, List.getElem_cons_zero, List.getElem_cons_succ, List.setIfInBounds_toArray, List.set_cons_zero, List.set_cons_succ]
      refine plan_end ?_
      go_upto_region 5 with (fail)
      refine wp_region_plan_last [([0, 1, 3, 4, 7, 8], 2), ([], 5), ([6], 9)] [10, 11] (fun w' => w'.cell? ⟨g1, 0, none⟩ = some (.int .u32 sa) ∧ w'.cell? ⟨g1, 1, none⟩ = some (.int .u32 sb) ∧ w'.cell? ⟨g1, 2, none⟩ = some (.int .u32 sc) ∧ w'.cell? ⟨g1, 3, none⟩ = some (.int .u32 sd) ∧ w'.cell? ⟨g1, 4, none⟩ = some (.int .u32 se) ∧ w'.cell? ⟨g1, 5, none⟩ = some (.int .u32 sf) ∧ w'.cell? ⟨g1, 6, none⟩ = some (.int .u32 sg) ∧ w'.cell? ⟨g1, 7, none⟩ = some (.int .u32 sh) ∧ w'.cell? ⟨tb, n, none⟩ = some (.int .u32 kn)) (by kernel_rfl) (by kernel_rfl) ⟨s0, s1, s2, s3, s4, s5, s6, s7, kc⟩ ?_
      iterate 6
        refine plan_take (v := ?_) rfl rfl (fun w' hS => ?_) ?_
        rotate_left
        · obtain ⟨hS0, hS1, hS2, hS3, hS4, hS5, hS6, hS7, hS8⟩ := hS
          go_simp; try with_reducible rfl
        simp only [Act.put, List.getElem_toArray, List.getElem_cons_zero, List.getElem_cons_succ, List.setIfInBounds_toArray, List.set_cons_zero, List.set_cons_succ]
      refine plan_act rfl (fun KK hKK => ?_)
      go_wp2_with fail
      refine (right_any se 6 wr.drew.drew (by decide) (by decide)).mono ?_
      rintro e w' ⟨rfl, rfl⟩
      unfold uv
      go_wp2_with fail
      refine hKK.out _ _ (.inr ⟨s0, s1, s2, s3, s4, s5, s6, s7, kc⟩) ?_
      refine plan_act rfl (fun KK hKK => ?_)
      go_wp2_with fail
      refine (right_any se 11 wr.drew.drew (by decide) (by decide)).mono ?_
      rintro e w' ⟨rfl, rfl⟩
      unfold uv
      go_wp2_with fail
      refine hKK.out _ _ (.inr ⟨s0, s1, s2, s3, s4, s5, s6, s7, kc⟩) ?_
      iterate 1
        refine plan_take (v := ?_) rfl rfl (fun w' hS => ?_) ?_
        rotate_left
        · skip
          go_simp; try with_reducible rfl
        simp only [Act.put, List.getElem_toArray, List.getElem_cons_zero, List.getElem_cons_succ, List.setIfInBounds_toArray, List.set_cons_zero, List.set_cons_succ]
      refine plan_act rfl (fun KK hKK => ?_)
      go_wp2_with fail
      refine (right_any se 25 wr.drew.drew (by decide) (by decide)).mono ?_
      rintro e w' ⟨rfl, rfl⟩
      unfold uv
      go_wp2_with fail
      refine hKK.out _ _ (.inr ⟨s0, s1, s2, s3, s4, s5, s6, s7, kc⟩) ?_
      refine plan_last (v := .int .u32 x1) rfl rfl (fun w' hS => ?_) ?_
      · skip
        go_simp
        rw [← HX1.out]
        rfl
      simp only [Act.put, List.getElem_toArray, List.getElem_cons_zero, List.getElem_cons_succ, List.setIfInBounds_toArray, List.set_cons_zero, List.set_cons_succ]
      iterate 1
        refine plan_last (v := ?_) rfl rfl (fun w' hS => ?_) ?_
        rotate_left
        · skip
          go_simp; try with_reducible rfl
        simp only [Act.put, List.getElem_toArray, List.getElem_cons_zero, List.getElem_cons_succ, List.setIfInBounds_toArray, List.set_cons_zero, List.set_cons_succ]
      refine plan_end ?_
      go_upto_region 6 with (fail)
      refine wp_region_plan_last [] [0, 1, 2, 3, 4, 5, 6, 7, 8, 9, 10, 11, 12, 13, 14, 15, 16, 17, 18, 19, 20, 21, 22, 23, 24, 25] (fun w' => w'.cell? ⟨g1, 0, none⟩ = some (.int .u32 sa) ∧ w'.cell? ⟨g1, 1, none⟩ = some (.int .u32 sb) ∧ w'.cell? ⟨g1, 2, none⟩ = some (.int .u32 sc) ∧ w'.cell? ⟨g1, 3, none⟩ = some (.int .u32 sd) ∧ w'.cell? ⟨g1, 4, none⟩ = some (.int .u32 se) ∧ w'.cell? ⟨g1, 5, none⟩ = some (.int .u32 sf) ∧ w'.cell? ⟨g1, 6, none⟩ = some (.int .u32 sg) ∧ w'.cell? ⟨g1, 7, none⟩ = some (.int .u32 sh) ∧ w'.cell? ⟨tb, n, none⟩ = some (.int .u32 kn)) (by kernel_rfl) (by kernel_rfl) ⟨s0, s1, s2, s3, s4, s5, s6, s7, kc⟩ ?_
      iterate 11
        refine plan_last (v := ?_) rfl rfl (fun w' hS => ?_) ?_
        rotate_left
        · obtain ⟨hS0, hS1, hS2, hS3, hS4, hS5, hS6, hS7, hS8⟩ := hS
          go_simp; try with_reducible rfl
        simp only [Act.put, List.getElem_toArray, List.getElem_cons_zero, List.getElem_cons_succ, List.setIfInBounds_toArray, List.set_cons_zero, List.set_cons_succ]
      refine plan_last (v := .int .u32 ne) rfl rfl (fun w' hS => ?_) ?_
      · skip
        go_simp
        rw [← HNE.out]
        rfl
      simp only [Act.put, List.getElem_toArray, List.getElem_cons_zero, List.getElem_cons_succ, List.setIfInBounds_toArray, List.set_cons_zero, List.set_cons_succ]
      iterate 3
        refine plan_last (v := ?_) rfl rfl (fun w' hS => ?_) ?_
        rotate_left
        · obtain ⟨hS0, hS1, hS2, hS3, hS4, hS5, hS6, hS7, hS8⟩ := hS
          go_simp; try with_reducible rfl
        simp only [Act.put, List.getElem_toArray, List.getElem_cons_zero, List.getElem_cons_succ, List.setIfInBounds_toArray, List.set_cons_zero, List.set_cons_succ]
      refine plan_last (v := .int .u32 ch) rfl rfl (fun w' hS => ?_) ?_
      · skip
        go_simp
        rw [← HCH.out]
        unfold chI
        rw [HNE.out]
      simp only [Act.put, List.getElem_toArray, List.getElem_cons_zero, List.getElem_cons_succ, List.setIfInBounds_toArray, List.set_cons_zero, List.set_cons_succ]
      iterate 8
        refine plan_last (v := ?_) rfl rfl (fun w' hS => ?_) ?_
        rotate_left
        · obtain ⟨hS0, hS1, hS2, hS3, hS4, hS5, hS6, hS7, hS8⟩ := hS
          go_simp; try with_reducible rfl
        simp only [Act.put, List.getElem_toArray, List.getElem_cons_zero, List.getElem_cons_succ, List.setIfInBounds_toArray, List.set_cons_zero, List.set_cons_succ]
      refine plan_last (v := .int .u32 pp) rfl rfl (fun w' hS => ?_) ?_
      · skip
        go_simp
        rw [← HPP.out]
        unfold m32
        simp only [IntKind.wrap_u32]
        try (first | rfl | omega)
      simp only [Act.put, List.getElem_toArray, List.getElem_cons_zero, List.getElem_cons_succ, List.setIfInBounds_toArray, List.set_cons_zero, List.set_cons_succ]
      iterate 1
        refine plan_last (v := ?_) rfl rfl (fun w' hS => ?_) ?_
        rotate_left
        · skip
          go_simp; try with_reducible rfl
        simp only [Act.put, List.getElem_toArray, List.getElem_cons_zero, List.getElem_cons_succ, List.setIfInBounds_toArray, List.set_cons_zero, List.set_cons_succ]
      refine plan_end ?_
      go_upto_region 8 with (fail)
      generalize hmj : bits BinOp.xor IntKind.u32 (bits BinOp.xor IntKind.u32 (bits BinOp.and IntKind.u32 sa sb) (bits BinOp.and IntKind.u32 sa sc)) (bits BinOp.and IntKind.u32 sb sc) = mj
      have HMJ := Lib.hid (show majI sa sb sc = mj from hmj)
      clear hmj
      go_upto_region 9 with ((with_reducible show wpList _ _ _ (Oper.mk _ (Op.store _ _ _) _ _ _ _ :: _) _ _); refine wpList_store_row rfl 58 (.tmp 5) (.tmp 107) rfl g1 _ _ 58 rfl rfl hS hi8 (by simp) (by simp [Value.oneCell']) ?_)
      have hrow : (#[Value.int IntKind.u32 ((pp + (y1 + mj)) % 4294967296), Value.int IntKind.u32 sa, Value.int IntKind.u32 sb, Value.int IntKind.u32 sc, Value.int IntKind.u32 ((sd + pp) % 4294967296), Value.int IntKind.u32 se, Value.int IntKind.u32 sf, Value.int IntKind.u32 sg] : Array Value) = ((roundsI K ws s (n + 1)).map uv).toArray := by
        have hp : pI se sf sg sh kn wn = pp := by unfold pI; rw [HX1.out, HCH.out, HPP.out]
        rw [← HNEW.out]
        rw [show roundI kn wn [sa, sb, sc, sd, se, sf, sg, sh] = [m32 (pI se sf sg sh kn wn + bigS0 sa + majI sa sb sc), sa, sb, sc, m32 (sd + pI se sf sg sh kn wn), se, sf, sg] from rfl]
        rw [hp, HY1.out, HMJ.out, Int.add_assoc]
        rfl
      rw [hrow]
      have hF' : Mixed w g0 g1 g2 tb h (roundsI K ws s (n + 1)) K (wr.drew.drew.drew.setRow g1 ((roundsI K ws s (n + 1)).map uv).toArray) := by
        obtain ⟨h1, h2, h3, h4⟩ := HG.out
        have F := hF.drew.drew.drew
        exact ⟨F.ah.row_ne _ (by omega), Arr.row (w := wr.drew.drew.drew) hS _, F.ar.row_ne _ (by omega), F.ak.row_ne _ (by omega),
          F.up.trans (Upd.setRow (S := fun i => w.heap.size ≤ i) _ (by show w.heap.size ≤ g1; omega) _)⟩
      generalize wr.drew.drew.drew.setRow g1 ((roundsI K ws s (n + 1)).map uv).toArray = w6 at *
      clear hrow s0 s1 s2 s3 s4 s5 s6 s7 kc hF hS hix
      go_wp2_with fail
      go_roundw
      case rel => exact ⟨n + 1, by omega, by first | rfl | go_num, hF'⟩
      case measure => simp [intOf]; omega
    · obtain rfl : n = 64 := by omega
      generalize hss : roundsI K ws s 64 = t at *
      have HSS := Lib.hid hss
      clear hss hlt
      go_wp2_with fail
      rw [show ((64 : Nat) : Int) = (64 : Int) from rfl]
      go_loopw [109] (fun i wx => ∃ m : Nat, m ≤ 8 ∧ i = .int .i64 (m : Int) ∧ Mixed w g0 g1 g2 tb (addW h t m) t K wx) (fun i _ => 8 - (intOf i).toNat)
      case atStart => exact ⟨0, by omega, rfl, hF⟩
      case round =>
        clear hF
        obtain ⟨m, hm, rfl, hF⟩ := hrel
        have hal := addW_length h t m
        rw [hh] at hal
        by_cases hlt : m < 8
        · have hI : (m : Int) < 8 := by omega
          have c1 := hF.ah.cell m (by omega)
          have c2 := hF.ax.cell m (by omega)
          have hf := hF.ah.thaw m
          have hnew : (addW h t m).set m (m32 ((addW h t m).getD m 0 + t.getD m 0)) = addW h t (m + 1) := rfl
          generalize addW h t m = hm' at *
          generalize hm'.getD m 0 = hv at *
          generalize t.getD m 0 = sv at *
          have HNEW := Lib.hid hnew
          clear hnew hlt
          obtain ⟨vv, hvv⟩ : ∃ vv, m32 (hv + sv) = vv := ⟨_, rfl⟩
          have HVV := Lib.hid hvv
          clear hvv
          go_upto_region 13 with (fail)
          refine wp_region_plan_last [([0, 1, 2, 3, 4, 5, 6, 7], 8)] [] (fun w' => w'.cell? ⟨g0, m, none⟩ = some (.int .u32 hv) ∧ w'.cell? ⟨g1, m, none⟩ = some (.int .u32 sv)) (by kernel_rfl) (by kernel_rfl) ⟨c1, c2⟩ ?_
          iterate 6
            refine plan_take (v := ?_) rfl rfl (fun w' hS => ?_) ?_
            rotate_left
            · obtain ⟨hS1, hS2⟩ := hS
              go_simp; try with_reducible rfl
            simp only [Act.put, List.getElem_toArray, List.getElem_cons_zero, List.getElem_cons_succ, List.setIfInBounds_toArray, List.set_cons_zero, List.set_cons_succ]
          refine plan_take (v := .int .u32 vv) rfl rfl (fun w' hS => ?_) ?_
          · skip
            go_simp
            rw [← HVV.out]
            unfold m32
            simp only [IntKind.wrap_u32]
            try (first | rfl | omega)
          simp only [Act.put, List.getElem_toArray, List.getElem_cons_zero, List.getElem_cons_succ, List.setIfInBounds_toArray, List.set_cons_zero, List.set_cons_succ]
          iterate 1
            refine plan_take (v := ?_) rfl rfl (fun w' hS => ?_) ?_
            rotate_left
            · skip
              go_simp; try with_reducible rfl
            simp only [Act.put, List.getElem_toArray, List.getElem_cons_zero, List.getElem_cons_succ, List.setIfInBounds_toArray, List.set_cons_zero, List.set_cons_succ]
          refine plan_act rfl (fun KK hKK => ?_)
          go_wp2_with fail
          refine hKK.out _ _ (.inl rfl) ?_
          refine plan_end ?_
          go_wp2_with fail
          have hF' : Mixed w g0 g1 g2 tb (addW h t (m + 1)) t K (wr.setCell ⟨g0, m, none⟩ (.int .u32 vv)).drew := by
            obtain ⟨h1, h2, h3, h4⟩ := HG.out
            rw [← HNEW.out, HVV.out]
            exact (Mixed.mk (hF.ah.set m vv) (hF.ax.cell_ne m _ (by omega)) (hF.ar.cell_ne m _ (by omega)) (hF.ak.cell_ne m _ (by omega)) (hF.up.trans (Upd.setCell (S := fun i => w.heap.size ≤ i) wr (p := ⟨g0, m, none⟩) (by show w.heap.size ≤ g0; omega) _)) : Mixed w g0 g1 g2 tb (hm'.set m vv) t K (wr.setCell ⟨g0, m, none⟩ (.int .u32 vv))).drew
          go_roundw
          case rel => exact ⟨m + 1, by omega, by first | rfl | go_num, hF'⟩
          case measure => simp [intOf]; omega
        · obtain rfl : m = 8 := by omega
          go_upto_region 15 with (fail)
          have hfin : addW h t 8 = addW h (roundsI K (wordsW l) s 64) 8 := by rw [HWW.out, HSS.out]
          rw [hfin] at hF hal
          generalize hr : addW h (roundsI K (wordsW l) s 64) 8 = r at *
          have HR := Lib.hid hr
          clear hr hfin
          have hiR : (Try.prog.info? 58).map (·.size) = some (r.map uv).toArray.size := by rw [hi8]; simp [hal]
          go_wp2_with (first
            | (refine wpList_load_row rfl 58 (.tmp 4) rfl g0 (r.map uv).toArray 58 (0, 0) _ rfl hF.ah Try.underlying58 rfl hiR ?_)
            | (refine wpList_store_row rfl 58 (.tmp 8) (.tmp 121) rfl g2 (r.map uv).toArray _ 58 rfl rfl hF.ar hiR (by simp [hal]) (uvs_one r) ?_))
          refine ret_row rfl g2 (r.map uv).toArray 58 (0, 0) _ rfl (setRow_heap _ _ _ _ _ _ hF.ar) Try.underlying58 rfl hiR rfl ⟨by rw [HR.out], ?_⟩
          obtain ⟨h1, h2, h3, h4⟩ := HG.out
          exact (hF.up.trans (Upd.setRow (S := fun i => w.heap.size ≤ i) wr (by show w.heap.size ≤ g2; omega) _)).mono (fun i hi hs => by omega)
end Go.Proofs.Yteefceainlfdfaa
