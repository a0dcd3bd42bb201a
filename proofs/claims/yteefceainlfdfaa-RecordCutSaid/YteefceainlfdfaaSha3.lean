
/- SHA-256, a block, as the reference mixes it in. -/
import Derived.Test.YteefceainlfdfaaSha2
namespace Go.Proofs.Yteefceainlfdfaa
set_option linter.unusedSimpArgs false
set_option linter.unusedVariables false
open Go.ChangeShapes Go.WideShapes Go.ChangeAt Go.RowKit

theorem Arr.new' (w : World) (T : TypeId) (ws : List Int) (g : Nat) (hg : w.heap.size = g) : Arr (w.alloc (.cells (ws.map uv).toArray T)) g T ws := hg ▸ Arr.new w T ws
/-- What a block's mixing keeps: the first words, the table, the result's place, the words of the block. -/
structure Four (w : World) (g0 g1 g2 g3 : Nat) (h K : List Int) (wx : World) (ws : List Int) : Prop where
  ah : Arr wx g0 58 h
  ak : Arr wx g1 60 K
  ar : Arr wx g2 58 (List.replicate 8 0)
  aw : Arr wx g3 60 ws
  up : Upd (fun i => w.heap.size ≤ i) w wx
theorem Four.set {w : World} {g0 g1 g2 g3 : Nat} {h K : List Int} {wx : World} {ws : List Int} (F : Four w g0 g1 g2 g3 h K wx ws) (h0 : g0 < g1) (h1 : g1 < g2) (h2 : g2 < g3) (hw : w.heap.size ≤ g3) (i : Nat) (v : Int) :
    Four w g0 g1 g2 g3 h K (wx.setCell ⟨g3, i, none⟩ (.int .u32 v)) (ws.set i v) where
  ah := F.ah.cell_ne i _ (by omega)
  ak := F.ak.cell_ne i _ (by omega)
  ar := F.ar.cell_ne i _ (by omega)
  aw := F.aw.set i v
  up := F.up.trans (Upd.setCell (S := fun i => w.heap.size ≤ i) wx (p := ⟨g3, i, none⟩) hw _)
theorem Four.drew {w : World} {g0 g1 g2 g3 : Nat} {h K : List Int} {wx : World} {ws : List Int} (F : Four w g0 g1 g2 g3 h K wx ws) : Four w g0 g1 g2 g3 h K wx.drew ws :=
  ⟨F.ah, F.ak, F.ar, F.aw, F.up.trans (Upd.drew _ _)⟩

set_option maxRecDepth 100000 in
set_option maxHeartbeats 40000000 in
theorem block_any (h K : List Int) (a : Option Addr) (c : Nat) (l : List UInt8) (w : World) (hv : Vw w a 64 c 1 (bvs l)) (hl : l.length = 64) (hh : h.length = 8) (hK : K.length = 64) (hlb : ∀ b, blk a = some b → b < w.heap.size) :
    Calls Try.prog 35 #[.agg (h.map uv).toArray, .slice a 64 c, .agg (K.map uv).toArray] w fun e w' => e = .returned (.agg ((blockI K h l).map uv).toArray) ∧ Upd (fun _ => False) w w' := by
  obtain ⟨b, off, rfl, hcell⟩ := hv.at (by omega) (by decide)
  have hb := hlb b rfl
  have hc64 := hv.le
  have hcap := hv.cap
  unfold maxLen at hcap
  obtain ⟨H0, hH0⟩ : ∃ H0, (h.map uv).toArray = H0 := ⟨_, rfl⟩
  obtain ⟨K0, hK0⟩ : ∃ K0, (K.map uv).toArray = K0 := ⟨_, rfl⟩
  rw [hH0, hK0]
  have HH0 := Lib.hid hH0
  have HK0 := Lib.hid hK0
  clear hH0 hK0
  go_enter Try.func35, Try.ntmps35
  go_upto_region 2 with (fail)
  obtain ⟨w4, hw4⟩ : ∃ w4, ((((w.alloc (Obj.cells H0 58)).alloc (Obj.cells K0 60)).alloc (Obj.cells #[.int .u32 0, .int .u32 0, .int .u32 0, .int .u32 0, .int .u32 0, .int .u32 0, .int .u32 0, .int .u32 0] 58)).alloc (Obj.cells #[.int .u32 0, .int .u32 0, .int .u32 0, .int .u32 0, .int .u32 0, .int .u32 0, .int .u32 0, .int .u32 0, .int .u32 0, .int .u32 0, .int .u32 0, .int .u32 0, .int .u32 0, .int .u32 0, .int .u32 0, .int .u32 0, .int .u32 0, .int .u32 0, .int .u32 0, .int .u32 0, .int .u32 0, .int .u32 0, .int .u32 0, .int .u32 0, .int .u32 0, .int .u32 0, .int .u32 0, .int .u32 0, .int .u32 0, .int .u32 0, .int .u32 0, .int .u32 0, .int .u32 0, .int .u32 0, .int .u32 0, .int .u32 0, .int .u32 0, .int .u32 0, .int .u32 0, .int .u32 0, .int .u32 0, .int .u32 0, .int .u32 0, .int .u32 0, .int .u32 0, .int .u32 0, .int .u32 0, .int .u32 0, .int .u32 0, .int .u32 0, .int .u32 0, .int .u32 0, .int .u32 0, .int .u32 0, .int .u32 0, .int .u32 0, .int .u32 0, .int .u32 0, .int .u32 0, .int .u32 0, .int .u32 0, .int .u32 0, .int .u32 0, .int .u32 0] 60)) = w4 := ⟨_, rfl⟩
  rw [hw4]
  generalize hg3 : w.heap.size + 1 + 1 + 1 = g3
  generalize hg2 : w.heap.size + 1 + 1 = g2
  generalize hg1 : w.heap.size + 1 = g1
  generalize hg0 : w.heap.size = g0
  have hF : Four w g0 g1 g2 g3 h K w4 (fillW l 0) := by
    rw [← hw4, ← HH0.out, ← HK0.out]
    subst hg0 hg1 hg2 hg3
    exact ⟨(((Arr.new w 58 h).alloc _).alloc _).alloc _,
      ((Arr.new' (w.alloc (Obj.cells (h.map uv).toArray 58)) 60 K _ (by simp)).alloc _).alloc _,
      (Arr.new' ((w.alloc (Obj.cells (h.map uv).toArray 58)).alloc (Obj.cells (K.map uv).toArray 60)) 58 (List.replicate 8 0) _ (by simp)).alloc _,
      Arr.new' (((w.alloc (Obj.cells (h.map uv).toArray 58)).alloc (Obj.cells (K.map uv).toArray 60)).alloc (Obj.cells #[.int .u32 0, .int .u32 0, .int .u32 0, .int .u32 0, .int .u32 0, .int .u32 0, .int .u32 0, .int .u32 0] 58)) 60 (List.replicate 64 0) _ (by simp),
      (((Upd.alloc _ _ _).trans (Upd.alloc _ _ _)).trans (Upd.alloc _ _ _)).trans (Upd.alloc _ _ _)⟩
  have hlt01 : g0 < g1 := by omega
  have hlt12 : g1 < g2 := by omega
  have hlt23 : g2 < g3 := by omega
  have hNg : w.heap.size ≤ g3 := by omega
  have HG := Lib.hid (And.intro hlt01 (And.intro hlt12 (And.intro hlt23 (And.intro hNg hg0))))
  clear hg1 hg2 hg3 hg0 hlt01 hlt12 hlt23 hNg hw4
  go_wp2_with fail
  go_loopw [8] (fun i8 wx => ∃ k : Nat, k ≤ 16 ∧ i8 = .int .i64 (k : Int) ∧ Four w g0 g1 g2 g3 h K wx (fillW l k)) (fun i _ => 16 - (intOf i).toNat)
  case atStart => exact ⟨0, by omega, rfl, hF⟩
  case round =>
    clear hF
    obtain ⟨k, hk, rfl, hF⟩ := hrel
    have hws := fillW_length l k
    by_cases hlt : k < 16
    · have hl' : ∀ j, j < 64 → wr.cell? ⟨b, off + j, none⟩ = some (bv (l.getD j 0)) := fun j hj => by
        have := hcell j _ (bvs_get l j (by omega))
        rw [hF.up.cell hb (by show ¬ w.heap.size ≤ b; omega)]
        simpa [bv, List.getElem?_eq_getElem (show j < l.length by omega)] using this
      have hI : (k : Int) < 16 := by omega
      have hI64 : (k : Int) < 64 := by omega
      have q0 := hl' (4 * k) (by omega)
      have q1 := hl' (4 * k + 1) (by omega)
      have q2 := hl' (4 * k + 2) (by omega)
      have q3 := hl' (4 * k + 3) (by omega)
      unfold bv at q0 q1 q2 q3
      have p0 : 0 ≤ 4 * (k : Int) := by omega
      have p0' : 4 * (k : Int) < 64 := by omega
      have t0 : (4 * (k : Int)).toNat = 4 * k := by omega
      have p1 : 0 ≤ 4 * (k : Int) + 1 := by omega
      have p1' : 4 * (k : Int) + 1 < 64 := by omega
      have t1 : (4 * (k : Int) + 1).toNat = 4 * k + 1 := by omega
      have p2 : 0 ≤ 4 * (k : Int) + 2 := by omega
      have p2' : 4 * (k : Int) + 2 < 64 := by omega
      have t2 : (4 * (k : Int) + 2).toNat = 4 * k + 2 := by omega
      have p3 : 0 ≤ 4 * (k : Int) + 3 := by omega
      have p3' : 4 * (k : Int) + 3 < 64 := by omega
      have t3 : (4 * (k : Int) + 3).toNat = 4 * k + 3 := by omega
      have m0 : IntKind.i64.wrap (4 * (k : Int)) = 4 * (k : Int) := IntWalk.i64_in _ (by omega)
      have m1 : IntKind.i64.wrap (4 * (k : Int) + 1) = 4 * (k : Int) + 1 := IntWalk.i64_in _ (by omega)
      have m2 : IntKind.i64.wrap (4 * (k : Int) + 2) = 4 * (k : Int) + 2 := IntWalk.i64_in _ (by omega)
      have m3 : IntKind.i64.wrap (4 * (k : Int) + 3) = 4 * (k : Int) + 3 := IntWalk.i64_in _ (by omega)
      have hf := hF.aw.thaw k
      have hcx := hF.aw.cell k (by omega)
      clear hl' hcell
      go_wp2_with fail
      refine wp_region_plan_last [([0, 1, 2, 3, 4, 5, 6, 7, 8, 9, 10, 11, 12, 13, 14, 15, 16, 17, 18, 19, 20, 21, 22, 23, 24, 25, 26, 27, 28, 29, 30, 31, 32, 33, 34], 35)] [] (fun w' => w'.cell? ⟨b, off + 4 * k, none⟩ = some (.int .u8 (l.getD (4 * k) 0).toNat) ∧ w'.cell? ⟨b, off + (4 * k + 1), none⟩ = some (.int .u8 (l.getD (4 * k + 1) 0).toNat) ∧ w'.cell? ⟨b, off + (4 * k + 2), none⟩ = some (.int .u8 (l.getD (4 * k + 2) 0).toNat) ∧ w'.cell? ⟨b, off + (4 * k + 3), none⟩ = some (.int .u8 (l.getD (4 * k + 3) 0).toNat)) (by kernel_rfl) (by kernel_rfl) ⟨q0, q1, q2, q3⟩ ?_
      have hnw : (fillW l k).set k (wordI (l.getD (4 * k) 0) (l.getD (4 * k + 1) 0) (l.getD (4 * k + 2) 0) (l.getD (4 * k + 3) 0)) = fillW l (k + 1) := rfl
      generalize l.getD (4 * k) 0 = x0 at *
      generalize l.getD (4 * k + 1) 0 = x1 at *
      generalize l.getD (4 * k + 2) 0 = x2 at *
      generalize l.getD (4 * k + 3) 0 = x3 at *
      have HNW := Lib.hid hnw
      clear hnw
      iterate 35
        refine plan_take (v := ?_) rfl rfl (fun w' hS => ?_) ?_
        rotate_left
        · obtain ⟨hS1, hS2, hS3, hS4⟩ := hS
          go_simp; try with_reducible rfl
        simp only [Act.put, List.getElem_toArray, List.getElem_cons_zero, List.getElem_cons_succ, List.setIfInBounds_toArray, List.set_cons_zero, List.set_cons_succ]
      rw [show bits BinOp.or IntKind.u32 (bits BinOp.or IntKind.u32 (bits BinOp.or IntKind.u32 (IntKind.u32.wrap (IntKind.u32.wrap (x0.toNat : Int) * 16777216)) (IntKind.u32.wrap (IntKind.u32.wrap (x1.toNat : Int) * 65536))) (IntKind.u32.wrap (IntKind.u32.wrap (x2.toNat : Int) * 256))) (IntKind.u32.wrap (x3.toNat : Int)) = wordI x0 x1 x2 x3 from rfl]
      generalize hwd : wordI x0 x1 x2 x3 = wd
      have HWD := Lib.hid hwd
      clear hwd
      refine plan_act rfl (fun KK hKK => ?_)
      go_wp2_with fail
      refine hKK.out _ _ (.inl rfl) ?_
      refine plan_end ?_
      go_wp2_with fail
      have hF' : Four w g0 g1 g2 g3 h K (wr.setCell ⟨g3, k, none⟩ (.int .u32 wd)).drew (fillW l (k + 1)) := by
        obtain ⟨h1, h2, h3, h4, _⟩ := HG.out
        rw [← HNW.out, HWD.out]
        exact (hF.set h1 h2 h3 h4 k wd).drew
      go_roundw
      case rel => exact ⟨k + 1, by omega, by first | rfl | go_num, hF'⟩
      case measure => simp [intOf]; omega
    · obtain rfl : k = 16 := by omega
      go_wp2_with fail
      rw [show ((16 : Nat) : Int) = (16 : Int) from rfl]
      go_loopw [9] (fun i wx => ∃ n : Nat, 16 ≤ n ∧ n ≤ 64 ∧ i = .int .i64 (n : Int) ∧ Four w g0 g1 g2 g3 h K wx (extW (fillW l 16) (n - 16))) (fun i _ => 64 - (intOf i).toNat)
      case atStart => exact ⟨16, by omega, by omega, rfl, hF⟩
      case round =>
        clear hF hws
        obtain ⟨n, hn16, hn, rfl, hF⟩ := hrel
        have hws := extW_length (fillW l 16) (n - 16)
        rw [fillW_length] at hws
        obtain ⟨k, hk⟩ : ∃ k, k = n - 16 := ⟨_, rfl⟩
        rw [← hk] at hF hws
        by_cases hlt : n < 64
        · have hnk : n = 16 + k := by omega
          have HNK := Lib.hid hnk
          have hI : (n : Int) < 64 := by omega
          have m16 : IntKind.i64.wrap ((n : Int) - 16) = (n : Int) - 16 := IntWalk.i64_in _ (by omega)
          have p16 : 0 ≤ (n : Int) - 16 := by omega
          have p16' : (n : Int) - 16 < 64 := by omega
          have g16' : (16 : Int) ≤ (n : Int) := by omega
          have t16 : ((n : Int) - 16).toNat = k := by omega
          have c16 := hF.aw.cell (k) (by omega)
          have m15 : IntKind.i64.wrap ((n : Int) - 15) = (n : Int) - 15 := IntWalk.i64_in _ (by omega)
          have p15 : 0 ≤ (n : Int) - 15 := by omega
          have p15' : (n : Int) - 15 < 64 := by omega
          have g15' : (15 : Int) ≤ (n : Int) := by omega
          have t15 : ((n : Int) - 15).toNat = k + 1 := by omega
          have c15 := hF.aw.cell (k + 1) (by omega)
          have m7 : IntKind.i64.wrap ((n : Int) - 7) = (n : Int) - 7 := IntWalk.i64_in _ (by omega)
          have p7 : 0 ≤ (n : Int) - 7 := by omega
          have p7' : (n : Int) - 7 < 64 := by omega
          have g7' : (7 : Int) ≤ (n : Int) := by omega
          have t7 : ((n : Int) - 7).toNat = k + 9 := by omega
          have c7 := hF.aw.cell (k + 9) (by omega)
          have m2 : IntKind.i64.wrap ((n : Int) - 2) = (n : Int) - 2 := IntWalk.i64_in _ (by omega)
          have p2 : 0 ≤ (n : Int) - 2 := by omega
          have p2' : (n : Int) - 2 < 64 := by omega
          have g2' : (2 : Int) ≤ (n : Int) := by omega
          have t2 : ((n : Int) - 2).toNat = k + 14 := by omega
          have c2 := hF.aw.cell (k + 14) (by omega)
          have hf := hF.aw.thaw n
          have hcx := hF.aw.cell n (by omega)
          have hnew : (extW (fillW l 16) k).set n (nextI ((extW (fillW l 16) k).getD k 0) ((extW (fillW l 16) k).getD (k + 1) 0) ((extW (fillW l 16) k).getD (k + 9) 0) ((extW (fillW l 16) k).getD (k + 14) 0)) = extW (fillW l 16) (k + 1) := by
            rw [hnk]; rfl
          generalize extW (fillW l 16) k = ws at *
          generalize ws.getD k 0 = ga at *
          generalize ws.getD (k + 1) 0 = gb at *
          generalize ws.getD (k + 9) 0 = gc at *
          generalize ws.getD (k + 14) 0 = gd at *
          have HNEW := Lib.hid hnew
          clear hnew hnk hk hlt hcell
          obtain ⟨xx, hxx⟩ : ∃ xx, sig0 gb = xx := ⟨_, rfl⟩
          have HXX := Lib.hid hxx
          clear hxx
          obtain ⟨yy, hyy⟩ : ∃ yy, sig1 gd = yy := ⟨_, rfl⟩
          have HYY := Lib.hid hyy
          clear hyy
          go_wp2_with fail
          refine wp_region_plan_last [([0, 1, 2, 3, 5, 6, 7, 8, 11, 12, 13, 14, 15], 4), ([], 9)] [10, 16, 17] (fun w' => w'.cell? ⟨g3, k, none⟩ = some (.int .u32 ga) ∧ w'.cell? ⟨g3, k + 1, none⟩ = some (.int .u32 gb) ∧ w'.cell? ⟨g3, k + 9, none⟩ = some (.int .u32 gc) ∧ w'.cell? ⟨g3, k + 14, none⟩ = some (.int .u32 gd)) (by kernel_rfl) (by kernel_rfl) ⟨c16, c15, c7, c2⟩ ?_
          iterate 13
            refine plan_take (v := ?_) rfl rfl (fun w' hS => ?_) ?_
            rotate_left
            · obtain ⟨hS1, hS2, hS3, hS4⟩ := hS
              go_simp; try with_reducible rfl
            simp only [Act.put, List.getElem_toArray, List.getElem_cons_zero, List.getElem_cons_succ, List.setIfInBounds_toArray, List.set_cons_zero, List.set_cons_succ]
          refine plan_act rfl (fun KK hKK => ?_)
          go_wp2_with fail
          refine (turn_any gb 7 wr.drew (by decide) (by decide)).mono ?_
          rintro e w' ⟨rfl, rfl⟩
          unfold uv
          go_wp2_with fail
          refine hKK.out _ _ (.inr ⟨c16, c15, c7, c2⟩) ?_
          refine plan_act rfl (fun KK hKK => ?_)
          go_wp2_with fail
          refine (turn_any gb 18 wr.drew (by decide) (by decide)).mono ?_
          rintro e w' ⟨rfl, rfl⟩
          unfold uv
          go_wp2_with fail
          refine hKK.out _ _ (.inr ⟨c16, c15, c7, c2⟩) ?_
          iterate 1
            refine plan_last (v := ?_) rfl rfl (fun w' hS => ?_) ?_
            rotate_left
            · obtain ⟨hS1, hS2, hS3, hS4⟩ := hS
              go_simp; try with_reducible rfl
            simp only [Act.put, List.getElem_toArray, List.getElem_cons_zero, List.getElem_cons_succ, List.setIfInBounds_toArray, List.set_cons_zero, List.set_cons_succ]
          refine plan_last (v := .int .u32 xx) rfl rfl (fun w' hS => ?_) ?_
          · skip
            go_simp
            rw [← HXX.out]
            rfl
          simp only [Act.put, List.getElem_toArray, List.getElem_cons_zero, List.getElem_cons_succ, List.setIfInBounds_toArray, List.set_cons_zero, List.set_cons_succ]
          iterate 1
            refine plan_last (v := ?_) rfl rfl (fun w' hS => ?_) ?_
            rotate_left
            · skip
              go_simp; try with_reducible rfl
            simp only [Act.put, List.getElem_toArray, List.getElem_cons_zero, List.getElem_cons_succ, List.setIfInBounds_toArray, List.set_cons_zero, List.set_cons_succ]
          refine plan_end ?_
          go_wp2_with fail
          refine wp_region_plan_last [([0, 1, 2, 3, 5, 6, 7, 8, 11, 12, 13, 14, 15], 4), ([], 9)] [10, 16, 17] (fun w' => w'.cell? ⟨g3, k, none⟩ = some (.int .u32 ga) ∧ w'.cell? ⟨g3, k + 1, none⟩ = some (.int .u32 gb) ∧ w'.cell? ⟨g3, k + 9, none⟩ = some (.int .u32 gc) ∧ w'.cell? ⟨g3, k + 14, none⟩ = some (.int .u32 gd)) (by kernel_rfl) (by kernel_rfl) ⟨c16, c15, c7, c2⟩ ?_
          iterate 13
            refine plan_take (v := ?_) rfl rfl (fun w' hS => ?_) ?_
            rotate_left
            · obtain ⟨hS1, hS2, hS3, hS4⟩ := hS
              go_simp; try with_reducible rfl
            simp only [Act.put, List.getElem_toArray, List.getElem_cons_zero, List.getElem_cons_succ, List.setIfInBounds_toArray, List.set_cons_zero, List.set_cons_succ]
          refine plan_act rfl (fun KK hKK => ?_)
          go_wp2_with fail
          refine (turn_any gd 17 wr.drew.drew (by decide) (by decide)).mono ?_
          rintro e w' ⟨rfl, rfl⟩
          unfold uv
          go_wp2_with fail
          refine hKK.out _ _ (.inr ⟨c16, c15, c7, c2⟩) ?_
          refine plan_act rfl (fun KK hKK => ?_)
          go_wp2_with fail
          refine (turn_any gd 19 wr.drew.drew (by decide) (by decide)).mono ?_
          rintro e w' ⟨rfl, rfl⟩
          unfold uv
          go_wp2_with fail
          refine hKK.out _ _ (.inr ⟨c16, c15, c7, c2⟩) ?_
          iterate 1
            refine plan_last (v := ?_) rfl rfl (fun w' hS => ?_) ?_
            rotate_left
            · obtain ⟨hS1, hS2, hS3, hS4⟩ := hS
              go_simp; try with_reducible rfl
            simp only [Act.put, List.getElem_toArray, List.getElem_cons_zero, List.getElem_cons_succ, List.setIfInBounds_toArray, List.set_cons_zero, List.set_cons_succ]
          refine plan_last (v := .int .u32 yy) rfl rfl (fun w' hS => ?_) ?_
          · skip
            go_simp
            rw [← HYY.out]
            rfl
          simp only [Act.put, List.getElem_toArray, List.getElem_cons_zero, List.getElem_cons_succ, List.setIfInBounds_toArray, List.set_cons_zero, List.set_cons_succ]
          iterate 1
            refine plan_last (v := ?_) rfl rfl (fun w' hS => ?_) ?_
            rotate_left
            · skip
              go_simp; try with_reducible rfl
            simp only [Act.put, List.getElem_toArray, List.getElem_cons_zero, List.getElem_cons_succ, List.setIfInBounds_toArray, List.set_cons_zero, List.set_cons_succ]
          refine plan_end ?_
          go_wp2_with fail
          refine wp_region_plan_last [([0, 1, 2, 3, 4, 5, 6, 7, 8, 9, 10, 11, 12, 13, 14], 15)] [] (fun w' => w'.cell? ⟨g3, k, none⟩ = some (.int .u32 ga) ∧ w'.cell? ⟨g3, k + 1, none⟩ = some (.int .u32 gb) ∧ w'.cell? ⟨g3, k + 9, none⟩ = some (.int .u32 gc) ∧ w'.cell? ⟨g3, k + 14, none⟩ = some (.int .u32 gd)) (by kernel_rfl) (by kernel_rfl) ⟨c16, c15, c7, c2⟩ ?_
          obtain ⟨wd, hwd⟩ : ∃ wd, nextI ga gb gc gd = wd := ⟨_, rfl⟩
          have HWD := Lib.hid hwd
          clear hwd
          iterate 13
            refine plan_take (v := ?_) rfl rfl (fun w' hS => ?_) ?_
            rotate_left
            · obtain ⟨hS1, hS2, hS3, hS4⟩ := hS
              go_simp; try with_reducible rfl
            simp only [Act.put, List.getElem_toArray, List.getElem_cons_zero, List.getElem_cons_succ, List.setIfInBounds_toArray, List.set_cons_zero, List.set_cons_succ]
          refine plan_take (v := .int .u32 wd) rfl rfl (fun w' hS => ?_) ?_
          · skip
            go_simp
            rw [← HWD.out]
            unfold nextI
            rw [HXX.out, HYY.out]
            simp only [IntKind.wrap_u32]
            omega
          simp only [Act.put, List.getElem_toArray, List.getElem_cons_zero, List.getElem_cons_succ, List.setIfInBounds_toArray, List.set_cons_zero, List.set_cons_succ]
          iterate 1
            refine plan_take (v := ?_) rfl rfl (fun w' hS => ?_) ?_
            rotate_left
            · skip
              go_simp; try with_reducible rfl
            simp only [Act.put, List.getElem_toArray, List.getElem_cons_zero, List.getElem_cons_succ, List.setIfInBounds_toArray, List.set_cons_zero, List.set_cons_succ]
          refine plan_act rfl (fun KK hKK => ?_)
          go_wp2_with fail
          refine hKK.out _ _ (.inl rfl) ?_
          refine plan_end ?_
          go_wp2_with fail
          have hF' : Four w g0 g1 g2 g3 h K (wr.drew.drew.drew.setCell ⟨g3, n, none⟩ (.int .u32 wd)) (extW (fillW l 16) (k + 1)) := by
            obtain ⟨h1, h2, h3, h4, _⟩ := HG.out
            rw [← HNEW.out, HWD.out]
            exact hF.drew.drew.drew.set h1 h2 h3 h4 n wd
          go_roundw
          case rel =>
            refine ⟨n + 1, by omega, by omega, by first | rfl | go_num, ?_⟩
            rw [show n + 1 - 16 = k + 1 from by have := HNK.out; omega]
            exact hF'
          case measure => simp [intOf]; omega
        · obtain rfl : n = 64 := by omega
          have hws' : k = 48 := by omega
          have hkw : extW (fillW l 16) k = wordsW l := by rw [hws']; rfl
          rw [hkw] at hF hws
          generalize hww : wordsW l = ws at *
          have HWW := Lib.hid hww
          clear hww hkw hws' hk hlt hcell
          go_upto_region 12 with (fail)
          rw [show ((64 : Nat) : Int) = (64 : Int) from rfl]
          have hi8 : (Try.prog.info? 58).map (·.size) = some 8 := by kernel_rfl
          have hiH : (Try.prog.info? 58).map (·.size) = some (h.map uv).toArray.size := by rw [hi8]; simp [hh]
          go_wp2_with (first
            | (refine wpList_load_row rfl 58 (.tmp 3) rfl g0 (h.map uv).toArray 58 (0, 0) _ rfl hF.ah Try.underlying58 rfl hiH ?_)
            | (refine wpList_store_row rfl 58 (.tmp 12) (.tmp 112) rfl wr.heap.size (h.map uv).toArray _ 58 rfl rfl (heap_alloc_new _ _) hiH (by simp [hh]) (uvs_one h) ?_))
          have h34 : g3 < wr.heap.size := hF.aw.lt
          have hF5 : Four w g0 g1 g2 g3 h K ((wr.alloc (Obj.cells #[.int .u32 0, .int .u32 0, .int .u32 0, .int .u32 0, .int .u32 0, .int .u32 0, .int .u32 0, .int .u32 0] 58)).setRow wr.heap.size (h.map uv).toArray) ws := by
            obtain ⟨h1, h2, h3, h4, _⟩ := HG.out
            exact ⟨(hF.ah.alloc _).row_ne _ (by omega), (hF.ak.alloc _).row_ne _ (by omega), (hF.ar.alloc _).row_ne _ (by omega), (hF.aw.alloc _).row_ne _ (by omega),
              (hF.up.trans (Upd.alloc _ _ _)).trans (Upd.setRow (S := fun i => w.heap.size ≤ i) _ (by show w.heap.size ≤ wr.heap.size; omega) _)⟩
          have hS5 : Arr ((wr.alloc (Obj.cells #[.int .u32 0, .int .u32 0, .int .u32 0, .int .u32 0, .int .u32 0, .int .u32 0, .int .u32 0, .int .u32 0] 58)).setRow wr.heap.size (h.map uv).toArray) wr.heap.size 58 (roundsI K ws h 0) := (Arr.new wr 58 (List.replicate 8 0)).row h
          generalize (wr.alloc (Obj.cells #[.int .u32 0, .int .u32 0, .int .u32 0, .int .u32 0, .int .u32 0, .int .u32 0, .int .u32 0, .int .u32 0] 58)).setRow wr.heap.size (h.map uv).toArray = w5 at *
          generalize (h.map uv).toArray = H1 at *
          generalize wr.heap.size = g4 at *
          clear hF
          have HG4 := Lib.hid h34
          clear h34
          go_loopw [13] (fun i wx => ∃ n : Nat, n ≤ 64 ∧ i = .int .i64 (n : Int) ∧ Four w g0 g1 g2 g3 h K wx ws ∧ Arr wx g4 58 (roundsI K ws h n)) (fun i _ => 64 - (intOf i).toNat)
          case atStart => exact ⟨0, by omega, rfl, hF5, hS5⟩
          case round =>
            clear hF5 hS5
            obtain ⟨n, hn, rfl, hF, hS⟩ := hrel
            have hsl := roundsI_length K ws h n
            rw [hh] at hsl
            by_cases hlt : n < 64
            · obtain ⟨sa, sb, sc, sd, se, sf, sg, sh, hs⟩ := eight hsl
              rw [hs] at hS
              have hnew : roundI (K.getD n 0) (ws.getD n 0) [sa, sb, sc, sd, se, sf, sg, sh] = roundsI K ws h (n + 1) := by rw [roundsI, hs]
              have hI : (n : Int) < 64 := by omega
              have s0 : wr.cell? ⟨g4, 0, none⟩ = some (.int .u32 sa) := hS.cell 0 (by show 0 < 8; decide)
              have s1 : wr.cell? ⟨g4, 1, none⟩ = some (.int .u32 sb) := hS.cell 1 (by show 1 < 8; decide)
              have s2 : wr.cell? ⟨g4, 2, none⟩ = some (.int .u32 sc) := hS.cell 2 (by show 2 < 8; decide)
              have s3 : wr.cell? ⟨g4, 3, none⟩ = some (.int .u32 sd) := hS.cell 3 (by show 3 < 8; decide)
              have s4 : wr.cell? ⟨g4, 4, none⟩ = some (.int .u32 se) := hS.cell 4 (by show 4 < 8; decide)
              have s5 : wr.cell? ⟨g4, 5, none⟩ = some (.int .u32 sf) := hS.cell 5 (by show 5 < 8; decide)
              have s6 : wr.cell? ⟨g4, 6, none⟩ = some (.int .u32 sg) := hS.cell 6 (by show 6 < 8; decide)
              have s7 : wr.cell? ⟨g4, 7, none⟩ = some (.int .u32 sh) := hS.cell 7 (by show 7 < 8; decide)
              have kc := hF.ak.cell n (by omega)
              have wc := hF.aw.cell n (by omega)
              generalize K.getD n 0 = kn at *
              generalize ws.getD n 0 = wn at *
              have HNEW := Lib.hid hnew
              clear hnew hs hsl hlt
              obtain ⟨x1, hx1⟩ : ∃ x1, bigS1 se = x1 := ⟨_, rfl⟩
              have HX1 := Lib.hid hx1
              clear hx1
              go_wp2_with fail
              refine wp_region_plan_last [([0, 1, 3, 4, 7, 8], 2), ([], 5), ([6], 9)] [10, 11] (fun w' => w'.cell? ⟨g4, 0, none⟩ = some (.int .u32 sa) ∧ w'.cell? ⟨g4, 1, none⟩ = some (.int .u32 sb) ∧ w'.cell? ⟨g4, 2, none⟩ = some (.int .u32 sc) ∧ w'.cell? ⟨g4, 3, none⟩ = some (.int .u32 sd) ∧ w'.cell? ⟨g4, 4, none⟩ = some (.int .u32 se) ∧ w'.cell? ⟨g4, 5, none⟩ = some (.int .u32 sf) ∧ w'.cell? ⟨g4, 6, none⟩ = some (.int .u32 sg) ∧ w'.cell? ⟨g4, 7, none⟩ = some (.int .u32 sh) ∧ w'.cell? ⟨g1, n, none⟩ = some (.int .u32 kn) ∧ w'.cell? ⟨g3, n, none⟩ = some (.int .u32 wn)) (by kernel_rfl) (by kernel_rfl) ⟨s0, s1, s2, s3, s4, s5, s6, s7, kc, wc⟩ ?_
              iterate 6
                refine plan_take (v := ?_) rfl rfl (fun w' hS => ?_) ?_
                rotate_left
                · obtain ⟨hS0, hS1, hS2, hS3, hS4, hS5, hS6, hS7, hS8, hS9⟩ := hS
                  go_simp; try with_reducible rfl
                simp only [Act.put, List.getElem_toArray, List.getElem_cons_zero, List.getElem_cons_succ, List.setIfInBounds_toArray, List.set_cons_zero, List.set_cons_succ]
              refine plan_act rfl (fun KK hKK => ?_)
              go_wp2_with fail
              refine (turn_any se 6 wr.drew (by decide) (by decide)).mono ?_
              rintro e w' ⟨rfl, rfl⟩
              unfold uv
              go_wp2_with fail
              refine hKK.out _ _ (.inr ⟨s0, s1, s2, s3, s4, s5, s6, s7, kc, wc⟩) ?_
              refine plan_act rfl (fun KK hKK => ?_)
              go_wp2_with fail
              refine (turn_any se 11 wr.drew (by decide) (by decide)).mono ?_
              rintro e w' ⟨rfl, rfl⟩
              unfold uv
              go_wp2_with fail
              refine hKK.out _ _ (.inr ⟨s0, s1, s2, s3, s4, s5, s6, s7, kc, wc⟩) ?_
              iterate 1
                refine plan_take (v := ?_) rfl rfl (fun w' hS => ?_) ?_
                rotate_left
                · skip
                  go_simp; try with_reducible rfl
                simp only [Act.put, List.getElem_toArray, List.getElem_cons_zero, List.getElem_cons_succ, List.setIfInBounds_toArray, List.set_cons_zero, List.set_cons_succ]
              refine plan_act rfl (fun KK hKK => ?_)
              go_wp2_with fail
              refine (turn_any se 25 wr.drew (by decide) (by decide)).mono ?_
              rintro e w' ⟨rfl, rfl⟩
              unfold uv
              go_wp2_with fail
              refine hKK.out _ _ (.inr ⟨s0, s1, s2, s3, s4, s5, s6, s7, kc, wc⟩) ?_
              refine plan_last (v := .int .u32 x1) rfl rfl (fun w' hS => ?_) ?_
              · skip
                go_simp
                rw [← HX1.out]
                rfl
              simp only [Act.put, List.getElem_toArray, List.getElem_cons_zero, List.getElem_cons_succ, List.setIfInBounds_toArray, List.set_cons_zero, List.set_cons_succ]
              iterate 1
                refine plan_last (v := ?_) rfl rfl (fun w' hS => ?_) ?_
                rotate_left
                · skip
                  go_simp; try with_reducible rfl
                simp only [Act.put, List.getElem_toArray, List.getElem_cons_zero, List.getElem_cons_succ, List.setIfInBounds_toArray, List.set_cons_zero, List.set_cons_succ]
              refine plan_end ?_
              go_upto_region 18 with (fail)
              generalize hne : bits BinOp.xor IntKind.u32 (if IntKind.u32.signed = true then -1 else IntKind.u32.max) se = ne
              generalize hch : bits BinOp.xor IntKind.u32 (bits BinOp.and IntKind.u32 se sf) (bits BinOp.and IntKind.u32 ne sg) = ch
              have HCH := Lib.hid (show chI se sf sg = ch from by rw [chI, notI, hne]; exact hch)
              clear hne hch
              obtain ⟨pp, hpp⟩ : ∃ pp, m32 (sh + x1 + ch + kn + wn) = pp := ⟨_, rfl⟩
              have HPP := Lib.hid hpp
              clear hpp
              refine wp_region_plan_last [] [0, 1, 2, 3, 4, 5, 6, 7, 8, 9, 10, 11, 12, 13, 14] (fun w' => w'.cell? ⟨g4, 0, none⟩ = some (.int .u32 sa) ∧ w'.cell? ⟨g4, 1, none⟩ = some (.int .u32 sb) ∧ w'.cell? ⟨g4, 2, none⟩ = some (.int .u32 sc) ∧ w'.cell? ⟨g4, 3, none⟩ = some (.int .u32 sd) ∧ w'.cell? ⟨g4, 4, none⟩ = some (.int .u32 se) ∧ w'.cell? ⟨g4, 5, none⟩ = some (.int .u32 sf) ∧ w'.cell? ⟨g4, 6, none⟩ = some (.int .u32 sg) ∧ w'.cell? ⟨g4, 7, none⟩ = some (.int .u32 sh) ∧ w'.cell? ⟨g1, n, none⟩ = some (.int .u32 kn) ∧ w'.cell? ⟨g3, n, none⟩ = some (.int .u32 wn)) (by kernel_rfl) (by kernel_rfl) ⟨s0, s1, s2, s3, s4, s5, s6, s7, kc, wc⟩ ?_
              iterate 13
                refine plan_last (v := ?_) rfl rfl (fun w' hS => ?_) ?_
                rotate_left
                · obtain ⟨hS0, hS1, hS2, hS3, hS4, hS5, hS6, hS7, hS8, hS9⟩ := hS
                  go_simp; try with_reducible rfl
                simp only [Act.put, List.getElem_toArray, List.getElem_cons_zero, List.getElem_cons_succ, List.setIfInBounds_toArray, List.set_cons_zero, List.set_cons_succ]
              refine plan_last (v := .int .u32 pp) rfl rfl (fun w' hS => ?_) ?_
              · skip
                go_simp
                rw [← HPP.out]
                unfold m32
                simp only [IntKind.wrap_u32]
                try (first | rfl | omega)
              simp only [Act.put, List.getElem_toArray, List.getElem_cons_zero, List.getElem_cons_succ, List.setIfInBounds_toArray, List.set_cons_zero, List.set_cons_succ]
              iterate 1
                refine plan_last (v := ?_) rfl rfl (fun w' hS => ?_) ?_
                rotate_left
                · skip
                  go_simp; try with_reducible rfl
                simp only [Act.put, List.getElem_toArray, List.getElem_cons_zero, List.getElem_cons_succ, List.setIfInBounds_toArray, List.set_cons_zero, List.set_cons_succ]
              refine plan_end ?_
              go_upto_region 19 with (fail)
              obtain ⟨y1, hy1⟩ : ∃ y1, bigS0 sa = y1 := ⟨_, rfl⟩
              have HY1 := Lib.hid hy1
              clear hy1
              refine wp_region_plan_last [([0, 1, 3, 4, 7, 8], 2), ([], 5), ([6], 9)] [10, 11] (fun w' => w'.cell? ⟨g4, 0, none⟩ = some (.int .u32 sa) ∧ w'.cell? ⟨g4, 1, none⟩ = some (.int .u32 sb) ∧ w'.cell? ⟨g4, 2, none⟩ = some (.int .u32 sc) ∧ w'.cell? ⟨g4, 3, none⟩ = some (.int .u32 sd) ∧ w'.cell? ⟨g4, 4, none⟩ = some (.int .u32 se) ∧ w'.cell? ⟨g4, 5, none⟩ = some (.int .u32 sf) ∧ w'.cell? ⟨g4, 6, none⟩ = some (.int .u32 sg) ∧ w'.cell? ⟨g4, 7, none⟩ = some (.int .u32 sh) ∧ w'.cell? ⟨g1, n, none⟩ = some (.int .u32 kn) ∧ w'.cell? ⟨g3, n, none⟩ = some (.int .u32 wn)) (by kernel_rfl) (by kernel_rfl) ⟨s0, s1, s2, s3, s4, s5, s6, s7, kc, wc⟩ ?_
              iterate 6
                refine plan_take (v := ?_) rfl rfl (fun w' hS => ?_) ?_
                rotate_left
                · obtain ⟨hS0, hS1, hS2, hS3, hS4, hS5, hS6, hS7, hS8, hS9⟩ := hS
                  go_simp; try with_reducible rfl
                simp only [Act.put, List.getElem_toArray, List.getElem_cons_zero, List.getElem_cons_succ, List.setIfInBounds_toArray, List.set_cons_zero, List.set_cons_succ]
              refine plan_act rfl (fun KK hKK => ?_)
              go_wp2_with fail
              refine (turn_any sa 2 wr.drew.drew.drew (by decide) (by decide)).mono ?_
              rintro e w' ⟨rfl, rfl⟩
              unfold uv
              go_wp2_with fail
              refine hKK.out _ _ (.inr ⟨s0, s1, s2, s3, s4, s5, s6, s7, kc, wc⟩) ?_
              refine plan_act rfl (fun KK hKK => ?_)
              go_wp2_with fail
              refine (turn_any sa 13 wr.drew.drew.drew (by decide) (by decide)).mono ?_
              rintro e w' ⟨rfl, rfl⟩
              unfold uv
              go_wp2_with fail
              refine hKK.out _ _ (.inr ⟨s0, s1, s2, s3, s4, s5, s6, s7, kc, wc⟩) ?_
              iterate 1
                refine plan_take (v := ?_) rfl rfl (fun w' hS => ?_) ?_
                rotate_left
                · skip
                  go_simp; try with_reducible rfl
                simp only [Act.put, List.getElem_toArray, List.getElem_cons_zero, List.getElem_cons_succ, List.setIfInBounds_toArray, List.set_cons_zero, List.set_cons_succ]
              refine plan_act rfl (fun KK hKK => ?_)
              go_wp2_with fail
              refine (turn_any sa 22 wr.drew.drew.drew (by decide) (by decide)).mono ?_
              rintro e w' ⟨rfl, rfl⟩
              unfold uv
              go_wp2_with fail
              refine hKK.out _ _ (.inr ⟨s0, s1, s2, s3, s4, s5, s6, s7, kc, wc⟩) ?_
              refine plan_last (v := .int .u32 y1) rfl rfl (fun w' hS => ?_) ?_
              · skip
                go_simp
                rw [← HY1.out]
                rfl
              simp only [Act.put, List.getElem_toArray, List.getElem_cons_zero, List.getElem_cons_succ, List.setIfInBounds_toArray, List.set_cons_zero, List.set_cons_succ]
              iterate 1
                refine plan_last (v := ?_) rfl rfl (fun w' hS => ?_) ?_
                rotate_left
                · skip
                  go_simp; try with_reducible rfl
                simp only [Act.put, List.getElem_toArray, List.getElem_cons_zero, List.getElem_cons_succ, List.setIfInBounds_toArray, List.set_cons_zero, List.set_cons_succ]
              refine plan_end ?_
              go_upto_region 21 with (fail)
              generalize hmj : bits BinOp.xor IntKind.u32 (bits BinOp.xor IntKind.u32 (bits BinOp.and IntKind.u32 sa sb) (bits BinOp.and IntKind.u32 sa sc)) (bits BinOp.and IntKind.u32 sb sc) = mj
              have HMJ := Lib.hid (show majI sa sb sc = mj from hmj)
              clear hmj
              go_upto_region 15 with ((with_reducible show wpList _ _ _ (Oper.mk _ (Op.store _ _ _) _ _ _ _ :: _) _ _); refine wpList_store_row rfl 58 (.tmp 12) (.tmp 203) rfl g4 _ _ 58 rfl rfl hS hi8 (by simp) (by simp [Value.oneCell']) ?_)
              have hrow : (#[Value.int IntKind.u32 ((pp + y1 + mj) % 4294967296), Value.int IntKind.u32 sa, Value.int IntKind.u32 sb, Value.int IntKind.u32 sc, Value.int IntKind.u32 ((sd + pp) % 4294967296), Value.int IntKind.u32 se, Value.int IntKind.u32 sf, Value.int IntKind.u32 sg] : Array Value) = ((roundsI K ws h (n + 1)).map uv).toArray := by
                have hp : pI se sf sg sh kn wn = pp := by unfold pI; rw [HX1.out, HCH.out, HPP.out]
                rw [← HNEW.out]
                rw [show roundI kn wn [sa, sb, sc, sd, se, sf, sg, sh] = [m32 (pI se sf sg sh kn wn + bigS0 sa + majI sa sb sc), sa, sb, sc, m32 (sd + pI se sf sg sh kn wn), se, sf, sg] from rfl]
                rw [hp, HY1.out, HMJ.out]
                rfl
              rw [hrow]
              have hS' : Arr (wr.drew.drew.drew.setRow g4 ((roundsI K ws h (n + 1)).map uv).toArray) g4 58 (roundsI K ws h (n + 1)) := Arr.row (w := wr.drew.drew.drew) hS _
              have hF' : Four w g0 g1 g2 g3 h K (wr.drew.drew.drew.setRow g4 ((roundsI K ws h (n + 1)).map uv).toArray) ws := by
                obtain ⟨h1, h2, h3, h4, _⟩ := HG.out
                have h5 := HG4.out
                have F := hF.drew.drew.drew
                exact ⟨F.ah.row_ne _ (by omega), F.ak.row_ne _ (by omega), F.ar.row_ne _ (by omega), F.aw.row_ne _ (by omega),
                  F.up.trans (Upd.setRow (S := fun i => w.heap.size ≤ i) _ (by show w.heap.size ≤ g4; omega) _)⟩
              generalize wr.drew.drew.drew.setRow g4 ((roundsI K ws h (n + 1)).map uv).toArray = w6 at *
              clear hrow s0 s1 s2 s3 s4 s5 s6 s7 kc wc hF hS
              go_wp2_with fail
              go_roundw
              case rel => exact ⟨n + 1, by omega, by first | rfl | go_num, hF', hS'⟩
              case measure => simp [intOf]; omega
            · obtain rfl : n = 64 := by omega
              generalize hss : roundsI K ws h 64 = s at *
              have HSS := Lib.hid hss
              clear hss hlt
              go_wp2_with fail
              rw [show ((64 : Nat) : Int) = (64 : Int) from rfl]
              go_loopw [19] (fun i wx => ∃ m : Nat, m ≤ 8 ∧ i = .int .i64 (m : Int) ∧ Four w g0 g1 g2 g3 (addW h s m) K wx ws ∧ Arr wx g4 58 s) (fun i _ => 8 - (intOf i).toNat)
              case atStart => exact ⟨0, by omega, rfl, hF, hS⟩
              case round =>
                clear hF hS
                obtain ⟨m, hm, rfl, hF, hS⟩ := hrel
                have hal := addW_length h s m
                rw [hh] at hal
                by_cases hlt : m < 8
                · have hI : (m : Int) < 8 := by omega
                  have c1 := hF.ah.cell m (by omega)
                  have c2 := hS.cell m (by omega)
                  have hf := hF.ah.thaw m
                  have hnew : (addW h s m).set m (m32 ((addW h s m).getD m 0 + s.getD m 0)) = addW h s (m + 1) := rfl
                  generalize addW h s m = hm' at *
                  generalize hm'.getD m 0 = hv at *
                  generalize s.getD m 0 = sv at *
                  have HNEW := Lib.hid hnew
                  clear hnew hlt
                  obtain ⟨vv, hvv⟩ : ∃ vv, m32 (hv + sv) = vv := ⟨_, rfl⟩
                  have HVV := Lib.hid hvv
                  clear hvv
                  go_upto_region 25 with (fail)
                  refine wp_region_plan_last [([0, 1, 2, 3, 4, 5, 6, 7, 8], 9)] [] (fun w' => w'.cell? ⟨g0, m, none⟩ = some (.int .u32 hv) ∧ w'.cell? ⟨g4, m, none⟩ = some (.int .u32 sv)) (by kernel_rfl) (by kernel_rfl) ⟨c1, c2⟩ ?_
                  iterate 7
                    refine plan_take (v := ?_) rfl rfl (fun w' hS => ?_) ?_
                    rotate_left
                    · obtain ⟨hS1, hS2⟩ := hS
                      go_simp; try with_reducible rfl
                    simp only [Act.put, List.getElem_toArray, List.getElem_cons_zero, List.getElem_cons_succ, List.setIfInBounds_toArray, List.set_cons_zero, List.set_cons_succ]
                  refine plan_take (v := .int .u32 vv) rfl rfl (fun w' hS => ?_) ?_
                  · skip
                    go_simp
                    rw [← HVV.out]
                    unfold m32
                    simp only [IntKind.wrap_u32]
                    try (first | rfl | omega)
                  simp only [Act.put, List.getElem_toArray, List.getElem_cons_zero, List.getElem_cons_succ, List.setIfInBounds_toArray, List.set_cons_zero, List.set_cons_succ]
                  iterate 1
                    refine plan_take (v := ?_) rfl rfl (fun w' hS => ?_) ?_
                    rotate_left
                    · skip
                      go_simp; try with_reducible rfl
                    simp only [Act.put, List.getElem_toArray, List.getElem_cons_zero, List.getElem_cons_succ, List.setIfInBounds_toArray, List.set_cons_zero, List.set_cons_succ]
                  refine plan_act rfl (fun KK hKK => ?_)
                  go_wp2_with fail
                  refine hKK.out _ _ (.inl rfl) ?_
                  refine plan_end ?_
                  go_wp2_with fail
                  have hS' : Arr (wr.setCell ⟨g0, m, none⟩ (.int .u32 vv)).drew g4 58 s := by
                    obtain ⟨h1, h2, h3, h4, _⟩ := HG.out
                    have h5 := HG4.out
                    exact (hS.cell_ne m _ (by omega)).drew
                  have hF' : Four w g0 g1 g2 g3 (addW h s (m + 1)) K (wr.setCell ⟨g0, m, none⟩ (.int .u32 vv)).drew ws := by
                    obtain ⟨h1, h2, h3, h4, h5⟩ := HG.out
                    rw [← HNEW.out, HVV.out]
                    exact (Four.mk (hF.ah.set m vv) (hF.ak.cell_ne m _ (by omega)) (hF.ar.cell_ne m _ (by omega)) (hF.aw.cell_ne m _ (by omega)) (hF.up.trans (Upd.setCell (S := fun i => w.heap.size ≤ i) wr (p := ⟨g0, m, none⟩) (by show w.heap.size ≤ g0; omega) _)) : Four w g0 g1 g2 g3 (hm'.set m vv) K (wr.setCell ⟨g0, m, none⟩ (.int .u32 vv)) ws).drew
                  go_roundw
                  case rel => exact ⟨m + 1, by omega, by first | rfl | go_num, hF', hS'⟩
                  case measure => simp [intOf]; omega
                · obtain rfl : m = 8 := by omega
                  go_upto_region 26 with (fail)
                  have hfin : addW h s 8 = blockI K h l := by rw [blockI, HWW.out, HSS.out]
                  rw [hfin] at hF hal
                  generalize hr : blockI K h l = r at *
                  have HR := Lib.hid hr
                  clear hr hfin
                  have hiR : (Try.prog.info? 58).map (·.size) = some (r.map uv).toArray.size := by rw [hi8]; simp [hal]
                  go_wp2_with (first
                    | (refine wpList_load_row rfl 58 (.tmp 3) rfl g0 (r.map uv).toArray 58 (0, 0) _ rfl hF.ah Try.underlying58 rfl hiR ?_)
                    | (refine wpList_store_row rfl 58 (.tmp 6) (.tmp 217) rfl g2 (r.map uv).toArray _ 58 rfl rfl hF.ar hiR (by simp [hal]) (uvs_one r) ?_))
                  refine ret_row rfl g2 (r.map uv).toArray 58 (0, 0) _ rfl (setRow_heap _ _ _ _ _ _ hF.ar) Try.underlying58 rfl hiR rfl ⟨by rw [HR.out], ?_⟩
                  obtain ⟨h1, h2, h3, h4, h5⟩ := HG.out
                  exact (hF.up.trans (Upd.setRow (S := fun i => w.heap.size ≤ i) wr (by show w.heap.size ≤ g2; omega) _)).mono (fun i hi hs => by omega)
end Go.Proofs.Yteefceainlfdfaa
