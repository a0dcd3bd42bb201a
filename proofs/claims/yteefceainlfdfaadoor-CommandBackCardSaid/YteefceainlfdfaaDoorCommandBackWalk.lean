
/- The walk of CommandBack. -/
import Derived.Test.YteefceainlfdfaaDoorRt6
import Derived.Test.YteefceainlfdfaaDoorRc5
import Derived.Test.YteefceainlfdfaaDoorRc8
import Derived.Test.YteefceainlfdfaaDoorAwake25
namespace Go.Proofs.YteefceainlfdfaaDoor
set_option linter.unusedSimpArgs false
set_option linter.unusedVariables false
set_option maxRecDepth 100000
open Go.ChangeShapes Go.WideShapes Go.ChangeAt Go.RowKit

theorem lit_ownC (w : World) (x : UInt8) : (w.alloc (.cells #[.int .u8 (x.toNat : Int)] 5)).ownsRow 0 5 1 (.slice (some ⟨w.heap.size, 0, none⟩) 1 1) 1 [.int .u8 (x.toNat : Int)] :=
  World.ownsRow_lit (base := 0) (e := 5) (size := 1) w #[.int .u8 (x.toNat : Int)] 1 (Nat.zero_le _) (by decide) rfl
theorem flat_len {X : Type} (f : X → List UInt8) (g : X → Nat) (k : Nat) (hf : ∀ x, (f x).length = g x + k) : ∀ (l : List X), (l.flatMap f).length = (l.map g).sum + l.length * k
  | [] => by simp
  | x :: l => by
    rw [List.flatMap_cons, List.length_append, hf, flat_len f g k hf l, List.map_cons, List.sum_cons, List.length_cons, Nat.succ_mul]
    omega
theorem encCmd_len (c : Cmd) : (encCmd c).length = fewN c + c.ch.length * 10 + c.ps.length * 4 + 29 := by
  unfold encCmd
  simp only [List.length_append, List.length_nil, le_length, tx_len, i4_length]
  rw [flat_len encCh chLen 10 (fun x => by unfold encCh chLen; simp only [List.length_append, tx_len, b1, List.length_cons, List.length_nil]; omega), flat_len tx List.length 4 (fun x => tx_len x)]
  unfold fewN
  omega

set_option maxHeartbeats 16000000 in
theorem CommandBack_walk (w : World) (c : Cmd) (a1 : Option Addr) (c1 : Nat) (a2 : Option Addr) (c2 : Nat) (hin : CmdIn w c a1 c1 a2 c2) (hfit : Fits c)
    (a : Option Addr) (c0 : Nat) (l : List UInt8) (hv : Vw w a l.length c0 1 (bvs l)) (hb : ∀ b, blk a = some b → b < w.heap.size) (cut : Int) (wcut : (Lit.int .i64 cut).wf = true) :
    Calls Tryd.prog 8 #[cmdV c a1 c1 a2 c2, .slice a l.length c0, .int .i64 cut] w fun e w' => e = .returned (.bool true) ∧ Below w.heap.size w w' := by
  have hcap := hv.cap
  have hlc := hv.le
  unfold maxLen at hcap
  have hU1 := Upd.alloc (fun _ => False) w (.cells (cmdV c a1 c1 a2 c2).cells 25)
  have hrow := heap_alloc_new w (.cells (cmdV c a1 c1 a2 c2).cells 25)
  have h1 := hin.upd hU1
  have hfew := few25_any c a1 c1 a2 c2 _ h1 hfit
  have hnm : fewL c = true → fewN c ≤ 30000 ∧ c.name.length ≤ 30000 ∧ (encCmd c).length ≤ 40000 := fun h => by
    unfold fewL at h
    simp only [Bool.and_eq_true, decide_eq_true_eq] at h
    have h2 := h.2
    have h3 := encCmd_len c
    refine ⟨h2, by unfold fewN at h2; omega, by omega⟩
  have hvy := hv.upd hU1 (fun _ _ h => h)
  have hsy := hU1.size
  have hcl : ∀ k, blk a1 = some k → c.ch ≠ [] → k < w.heap.size := fun k hk hne => by
    obtain ⟨b, o, hbo, hcell⟩ := hin.ch.at (List.length_pos_iff.2 hne) (by decide)
    subst hbo
    cases hk
    have := hcell 0 _ (chV_get c.ch 0 0 (List.length_pos_iff.2 hne) (by decide))
    exact World.block_lt_of_cell? w _ this
  clear hcl
  unfold cmdV at hU1 hrow h1 hfew hvy hsy ⊢
  unfold sv at hU1 hrow h1 hfew hvy hsy ⊢
  dsimp only [Value.cells] at hU1 hrow h1 hfew hvy hsy
  have HNM := Lib.hid hnm
  have HP := Lib.hid (And.intro hU1 (And.intro hrow (And.intro h1 (And.intro hfew (And.intro hvy hsy)))))
  have HIN := Lib.hid hin
  have HV0 := Lib.hid hv
  clear hU1 hrow h1 hfew hvy hsy hv hin hnm hfit
  have HB0 := Lib.hid hb
  clear hb
  go_enter Tryd.func8, Tryd.ntmps8
  go_upto_region 1 with (fail)
  obtain ⟨hU1, hrow, h1, hfew, hvy, hsy⟩ := HP.out
  generalize w.alloc (.cells #[.int .i64 c.kind, .string (str c.msg), .slice a1 c.ch.length c1, .slice a2 c.ps.length c2, .int .i64 c.count, .int .i64 c.commit, .int .i64 c.dest, .string (str c.name)] 25) = y0 at *
  obtain ⟨B, hB⟩ : ∃ B, B = w.heap.size := ⟨_, rfl⟩
  rw [← hB] at hrow ⊢
  obtain ⟨z0, z1, z2, z3, z4, z5, z6, z7⟩ := cmd_cells hrow (Upd.refl _ y0)
  have HU := Lib.hid hU1
  have HI := Lib.hid h1
  have HR0 : Hid (y0.heap[B]? = some (.cells (cmdA c a1 c1 a2 c2) 25)) := Lib.hid hrow
  have HV := Lib.hid hvy
  have HB : Hid (∀ b, blk a = some b → b < B) := Lib.hid (fun b h => by have := HB0.out b h; omega)
  have HBB := Lib.hid hB
  clear hU1 hrow h1 hvy hsy HP HB0 hB
  cases hf : fewL c with
  | false =>
    rw [hf] at hfew
    clear hf
    go_wp2_with fail
    refine hfew.mono ?_
    rintro e w1 ⟨rfl, hU⟩
    have HU1 := Lib.hid (HU.out.trans hU)
    clear hU hfew z0 z1 z2 z3 z4 z5 z6 z7
    go_wp2_with fail
    refine (awake25_any _).mono ?_
    rintro e w2 ⟨rfl, hU⟩
    have HU2 := Lib.hid (HU1.out.trans hU)
    clear hU
    go_wp2_with fail
    go_ret
    exact ⟨rfl, HU2.out.clean⟩
  | true =>
  rw [hf] at hfew
  obtain ⟨hfn, hnm, hel⟩ := HNM.out hf
  clear hf HNM
  go_wp2_with fail
  refine hfew.mono ?_
  rintro e w1 ⟨rfl, hU⟩
  have HW1 := Lib.hid hU
  clear hU hfew z0 z1 z2 z3 z4 z5 z6 z7
  by_cases hl : 4000 < l.length
  · have hI : (4000 : Int) < (l.length : Int) := by omega
    go_wp2_with fail
    refine (awake25_any _).mono ?_
    rintro e w2 ⟨rfl, hU⟩
    have HU2 := Lib.hid (HU.out.trans (HW1.out.trans hU))
    clear hU
    go_wp2_with fail
    go_ret
    exact ⟨rfl, HU2.out.clean⟩
  have hI : decide ((4000 : Int) < (l.length : Int)) = false := by rw [decide_eq_false_iff_not]; omega
  obtain ⟨z0, z1, z2, z3, z4, z5, z6, z7⟩ := cmd_cells HR0.out HW1.out
  unfold sv at z1 z7
  have hpk := cPack_any c a1 c1 a2 c2 w1 (HI.out.upd HW1.out) (by omega)
  unfold cmdV sv at hpk
  have HPK := Lib.hid hpk
  clear hpk
  go_upto_region 3 with (fail)
  clear hI
  have hpk := HPK.out
  go_wp2_with fail
  refine hpk.mono ?_
  unfold Packed
  rintro e w3 ⟨ax, cx, rfl, hvx, hfx, hU⟩
  have HW3 := Lib.hid (HW1.out.trans hU)
  have HX := Lib.hid hvx
  have HFX : Hid (∀ g, blk ax = some g → B < g) := Lib.hid (fun g hg => by have := (hfx g hg).1; have := lt_of_heap HR0.out; have := HW1.out.size; omega)
  clear hU hvx hpk HPK z0 z1 z2 z3 z4 z5 z6 z7 HW1 hfx
  go_upto_if 34 with (fail)
  go_cut [] (fun wx => Hid (Upd (fun _ => False) w wx))
  case first =>
    by_cases h0 : rightL c = 0
    case neg =>
      have hne : (rightL c == 0) = false := by simpa using h0
      clear h0
      go_wp2_with fail
      go_meet
      case rel => exact Lib.hid (HU.out.trans HW3.out)
    case pos =>
      have hpk : packL c = encCmd c := by unfold packL; rw [if_pos h0]
      have hxl := encCmd_len c
      have HBK := Lib.hid (pack_back c h0 (by omega))
      have HMO := Lib.hid (pack_more c h0 (by omega) 0)
      have HCU := Lib.hid (pack_cut c h0 (by omega))
      rw [hpk] at HX ⊢
      have HXX := Lib.hid hpk
      have hx1 : 1 ≤ (encCmd c).length := by omega
      obtain ⟨bx, ox, hbx, _⟩ := HX.out.at (by omega) (by decide)
      subst hbx
      have heq : (rightL c == 0) = true := by rw [h0]; rfl
      clear hpk h0 hxl hfn
      generalize encCmd c = X at *
      have htk := cTake_any (some ⟨bx, ox, none⟩) cx X w3 HX.out (by omega)
      rw [HBK.out.1, HBK.out.2] at htk
      clear HBK
      go_wp2_with fail
      refine htk.mono ?_
      unfold TookCmd
      rintro e w4 ⟨p1, k1, p2, k2, rfl, hin4, hU, hg1, hg2⟩
      have hal := Upd.alloc (fun _ => False) w4 (.cells (cmdA (heldCmd c) p1 k1 p2 k2) 25)
      have hrw := heap_alloc_new w4 (.cells (cmdA (heldCmd c) p1 k1 p2 k2) 25)
      have hU35 := hU.trans hal
      have hW5 := HW3.out.trans hU35
      have hT5 := hin4.upd hal
      have hX5 := HX.out.upd hU35 (fun _ _ h => h)
      have hB5 := (hW5.block B (lt_of_heap HR0.out) (fun h => h)).trans HR0.out
      have hlt5 : B < w4.heap.size := by have := lt_of_heap HR0.out; have := HW3.out.size; have := hU.size; omega
      have hf1 : ∀ g, blk p1 = some g → B < g := fun g e => by have := hg1 g e; have := lt_of_heap HR0.out; have := HW3.out.size; omega
      have hf2 : ∀ g, blk p2 = some g → B < g := fun g e => by have := hg2 g e; have := lt_of_heap HR0.out; have := HW3.out.size; omega
      have H5 := Lib.hid (And.intro hrw (And.intro (HU.out.trans hW5) (And.intro hT5 (And.intro hX5 (And.intro hB5 (And.intro hf1 hf2))))))
      unfold cmdA sv at H5
      unfold cmdV sv
      clear hal hrw hU35 hW5 hT5 hX5 hB5 hf1 hf2 hg1 hg2 hU hin4 htk
      go_upto_region 6 with (fail)
      obtain ⟨b9, hb9⟩ : ∃ b, b = w4.heap.size := ⟨_, rfl⟩
      rw [← hb9] at H5 hlt5 ⊢
      generalize w4.alloc (.cells #[.int .i64 (heldCmd c).kind, .string (str (heldCmd c).msg), .slice p1 (heldCmd c).ch.length k1, .slice p2 (heldCmd c).ps.length k2, .int .i64 (heldCmd c).count, .int .i64 (heldCmd c).commit, .int .i64 (heldCmd c).dest, .string (str (heldCmd c).name)] 25) = w5 at *
      clear hb9
      have r0 : w5.heap[B]? = some (.cells (cmdA c a1 c1 a2 c2) 25) := H5.out.2.2.2.2.1
      obtain ⟨z0, z1, z2, z3, z4, z5, z6, z7⟩ := cmd_cells r0 (Upd.refl _ w5)
      have t4 := free_row (j := 4) r0
      have t5 := free_row (j := 5) r0
      have t6 := free_row (j := 6) r0
      go_upto_region 7 with (fail)
      have hh : ∀ v : Int, max (-1) (min v 2147483646) = heldC v := fun v => by unfold heldC; omega
      rw [hh c.count, hh c.commit, hh c.dest]
      have r1 : (w5.setCell ⟨B, 4, none⟩ (.int .i64 (heldC c.count))).heap[B]? = some (.cells (cmdA ⟨c.kind, c.msg, c.ch, c.ps, heldC c.count, c.commit, c.dest, c.name⟩ a1 c1 a2 c2) 25) := setCell_heap 4 _ r0
      have r2 : ((w5.setCell ⟨B, 4, none⟩ (.int .i64 (heldC c.count))).setCell ⟨B, 5, none⟩ (.int .i64 (heldC c.commit))).heap[B]? = some (.cells (cmdA ⟨c.kind, c.msg, c.ch, c.ps, heldC c.count, heldC c.commit, c.dest, c.name⟩ a1 c1 a2 c2) 25) := setCell_heap 5 _ r1
      have r3 : (((w5.setCell ⟨B, 4, none⟩ (.int .i64 (heldC c.count))).setCell ⟨B, 5, none⟩ (.int .i64 (heldC c.commit))).setCell ⟨B, 6, none⟩ (.int .i64 (heldC c.dest))).heap[B]? = some (.cells (cmdA (heldCmd c) a1 c1 a2 c2) 25) := setCell_heap 6 _ r2
      have hU56 : Upd (fun k => k = B) w5 (((w5.setCell ⟨B, 4, none⟩ (.int .i64 (heldC c.count))).setCell ⟨B, 5, none⟩ (.int .i64 (heldC c.commit))).setCell ⟨B, 6, none⟩ (.int .i64 (heldC c.dest))) :=
        ((Upd.setCell (S := fun k => k = B) w5 (p := ⟨B, 4, none⟩) rfl _).trans (Upd.setCell (S := fun k => k = B) _ (p := ⟨B, 5, none⟩) rfl _)).trans (Upd.setCell (S := fun k => k = B) _ (p := ⟨B, 6, none⟩) rfl _)
      clear hh r1 r2 z0 z1 z2 z3 z4 z5 z6 z7 t4 t5 t6
      generalize ((w5.setCell ⟨B, 4, none⟩ (.int .i64 (heldC c.count))).setCell ⟨B, 5, none⟩ (.int .i64 (heldC c.commit))).setCell ⟨B, 6, none⟩ (.int .i64 (heldC c.dest)) = w6 at *
      have row9 : w5.heap[b9]? = some (.cells (cmdA (heldCmd c) p1 k1 p2 k2) 25) := H5.out.1
      have row9' := (hU56.block b9 (lt_of_heap row9) (by omega)).trans row9
      have hW6 := H5.out.2.1.next hU56 (fun i hi e => by have := HBB.out; omega)
      have hT6 : CmdIn w6 (heldCmd c) p1 k1 p2 k2 := ⟨H5.out.2.2.1.ch.upd hU56 (fun k e h => by have := H5.out.2.2.2.2.2.1 k e; omega), H5.out.2.2.1.ps.upd hU56 (fun k e h => by have := H5.out.2.2.2.2.2.2 k e; omega)⟩
      have hS6 : CmdIn w6 (heldCmd c) a1 c1 a2 c2 := ⟨(HIN.out.upd hW6).ch, (HIN.out.upd hW6).ps⟩
      have hX6 := H5.out.2.2.2.1.upd hU56 (fun k e h => by have := HFX.out k e; omega)
      have hsame := sameCmd_any (heldCmd c) p1 k1 p2 k2 a1 c1 a2 c2 w6 hT6 hS6
      obtain ⟨z0, z1, z2, z3, z4, z5, z6, z7⟩ := cmd_cells row9' (Upd.refl _ w6)
      obtain ⟨q0, q1, q2, q3, q4, q5, q6, q7⟩ := cmd_cells r3 (Upd.refl _ w6)
      have hx0 : ((X.length : Int) == 0) = false := by rw [beq_eq_false_iff_ne]; omega
      unfold cmdV at hsame
      unfold sv at hsame z1 z7 q1 q7
      have H6 := Lib.hid (And.intro hW6 hX6)
      clear r0 r3 hU56 row9 row9' hW6 hT6 hS6 hX6 H5 hlt5
      go_wp2_with fail
      refine hsame.mono ?_
      rintro e w7 ⟨rfl, hU⟩
      have H7 := Lib.hid (And.intro (H6.out.1.trans hU) (H6.out.2.upd hU (fun _ _ h => h)))
      clear hsame hU z0 z1 z2 z3 z4 z5 z6 z7 q0 q1 q2 q3 q4 q5 q6 q7 H6
      go_upto_region 9 with (fail)
      obtain ⟨k, hk, hkv⟩ : ∃ k : Nat, k < X.length ∧ wrap64 ((IntKind.u64.wrap cut).tmod (X.length : Int)) = (k : Int) := by
        have h0 : 0 ≤ IntKind.u64.wrap cut := Int.emod_nonneg _ (by decide)
        generalize IntKind.u64.wrap cut = z at *
        have h1 := Int.tmod_lt_of_pos z (show (0 : Int) < (X.length : Int) by omega)
        have h2 := Int.tmod_nonneg (X.length : Int) h0
        refine ⟨(z.tmod (X.length : Int)).toNat, by omega, ?_⟩
        unfold wrap64
        omega
      have hcx : X.length ≤ cx := H7.out.2.le
      have hkI : (k : Int) ≤ (cx : Int) := by omega
      have hk0 : (0 : Int) ≤ (k : Int) := by omega
      have hvk : Vw w7 (some ⟨bx, ox, none⟩) (X.take k).length cx 1 (bvs (X.take k)) := by
        have := H7.out.2.pre k (by omega)
        rw [List.length_take, Nat.min_eq_left (by omega)]
        simpa [bvs, List.map_take] using this
      have htk := cTake_any (some ⟨bx, ox, none⟩) cx (X.take k) w7 hvk (by rw [List.length_take]; omega)
      rw [HCU.out (X.take k) (X.drop k) (List.take_append_drop k X).symm (by intro h; have := congrArg List.length h; rw [List.length_drop, List.length_nil] at this; omega)] at htk
      rw [show (X.take k).length = k by rw [List.length_take]; omega] at htk
      clear hvk HCU
      generalize takeC (X.take k) = cq at *
      go_wp2_with fail
      refine htk.mono ?_
      unfold TookCmd
      rintro e w8 ⟨p3, k3, p4, k4, rfl, _, hU, _, _⟩
      have hU79 := hU.trans (Upd.alloc (fun _ => False) w8 (.cells (cmdA cq p3 k3 p4 k4) 25))
      have H8 := Lib.hid (And.intro (H7.out.1.trans hU79) (H7.out.2.upd hU79 (fun _ _ h => h)))
      unfold cmdA sv at H8
      unfold cmdV sv
      clear hU hU79 H7 htk hkI hk0 hkv hk
      go_upto_region 10 with (fail)
      generalize w8.alloc (.cells #[.int .i64 cq.kind, .string (str cq.msg), .slice p3 cq.ch.length k3, .slice p4 cq.ps.length k4, .int .i64 cq.count, .int .i64 cq.commit, .int .i64 cq.dest, .string (str cq.name)] 25) = w9 at *
      obtain ⟨i0, hi, hz0, hz1, hz2⟩ := info_parts infoU8
      have HIU := Lib.hid (And.intro hi (And.intro hz0 (And.intro hz1 hz2)))
      clear hi hz0 hz1 hz2
      have hsrc := (H8.out.2).src (P := Tryd.prog) (t := 28) Tryd.underlying28 (bvs_cells X)
      go_wp2_with (at_builtin; refine wpList_app _ rfl (.const (.slice none 0 0)) (.tmp 82) 28 28 rfl 5 i0 (.int .u8 0) 1 1 Tryd.underlying28 HIU.out.1 HIU.out.2.1 HIU.out.2.2.1 HIU.out.2.2.2 rfl none 0 0 [] rfl (World.ownsRow_nil _ _ _ _) (.slice (some ⟨bx, ox, none⟩) X.length cx) X.length (bvs X) rfl hsrc ?_ ?_ ?_)
      · unfold maxLen; omega
      · omega
      intro aA cA wA hownA hgA hatA hnilA
      try simp only [Nat.zero_add, List.nil_append] at hownA
      try simp only [Nat.zero_add]
      have hUA : Upd (fun _ => False) w9 wA := Upd.grown hgA (fun k hk => by cases hk)
      have hfA : ∀ g, blk aA = some g → w9.heap.size ≤ g := by
        intro g hg'
        rcases hatA with h | h
        · rw [h] at hg'; cases hg'
        · rw [h] at hg'; cases hg'; exact Nat.le_refl _
      have hUz := Upd.alloc (fun _ => False) wA (.cells #[.int .u8 0] 5)
      have hownB := ownsRow_upd hownA hUz (fun _ _ h => h)
      have hown0 : (wA.alloc (.cells #[.int .u8 0] 5)).ownsRow 0 5 1 (.slice (some ⟨wA.heap.size, 0, none⟩) 1 1) 1 (bvs [0]) := lit_ownC wA 0
      have hsrc0 := (Vw.of_own hown0).src (P := Tryd.prog) (t := 28) Tryd.underlying28 (bvs_cells [0])
      have HAP := Lib.hid (And.intro (hUA.trans hUz) hfA)
      clear hsrc hownA hgA hatA hnilA hUA hUz hfA hown0
      go_wp2_with (at_builtin; refine wpList_app _ rfl (.tmp 83) (.tmp 84) 28 28 rfl 5 i0 (.int .u8 0) 1 1 Tryd.underlying28 HIU.out.1 HIU.out.2.1 HIU.out.2.2.1 HIU.out.2.2.2 rfl aA X.length cA (bvs X) rfl hownB (.slice (some ⟨wA.heap.size, 0, none⟩) 1 1) 1 (bvs [0]) rfl hsrc0 ?_ ?_ ?_)
      · unfold maxLen; omega
      · omega
      intro aB cB wB hownC hgC hatC hnilC
      have hvB : Vw wB aB (X ++ [0]).length cB 1 (bvs (X ++ [0])) := by
        have := Vw.of_own hownC
        rw [List.length_append, bvs_append]; exact this
      have hUB : Upd (fun _ => False) w9 wB := HAP.out.1.next (Upd.grown (S := fun k => blk aA = some k) hgC (fun k hk => hk)) (fun i hi h => by have := HAP.out.2 i h; omega)
      have HUB4 := Lib.hid hUB
      clear hownB hsrc0 hownC hgC hatC hnilC HAP
      have htm := cTake_any aB cB (X ++ [0]) wB hvB (by rw [List.length_append]; simp; omega)
      rw [HMO.out] at htm
      rw [show (X ++ [(0 : UInt8)]).length = X.length + 1 by simp] at htm
      clear hvB hUB HMO
      generalize takeC (X ++ [0]) = cr at *
      go_wp2_with fail
      refine htm.mono ?_
      unfold TookCmd
      rintro e w10 ⟨p5, k5, p6, k6, rfl, _, hU, _, _⟩
      have H10 := Lib.hid (H8.out.1.trans (HUB4.out.trans (hU.trans (Upd.alloc (fun _ => False) w10 (.cells (cmdA cr p5 k5 p6 k6) 25)))))
      unfold cmdA sv at H10
      unfold cmdV sv
      clear hU htm H8 HUB4
      go_wp2_with fail
      rw [← HXX.out]
      go_meet
      case rel => exact H10
  case rest =>
    have HWC := hcut
    clear HW3 HX HFX HI HR0 hcut
    have htk := cTake_any a c0 l wc (HV0.out.upd HWC.out (fun _ _ h => h)) (by omega)
    go_wp2_with fail
    refine htk.mono ?_
    unfold TookCmd
    rintro e w11 ⟨p1, k1, p2, k2, rfl, hin11, hU, _, _⟩
    have hal := Upd.alloc (fun _ => False) w11 (.cells (cmdA (takeC l) p1 k1 p2 k2) 25)
    have hrw := heap_alloc_new w11 (.cells (cmdA (takeC l) p1 k1 p2 k2) 25)
    have H12 := Lib.hid (And.intro hrw (And.intro (HWC.out.trans (hU.trans hal)) (hin11.upd hal)))
    unfold cmdA sv at H12
    unfold cmdV sv
    clear hal hrw hU hin11 htk HWC
    go_upto_region 14 with (fail)
    generalize w11.alloc (.cells #[.int .i64 (takeC l).kind, .string (str (takeC l).msg), .slice p1 (takeC l).ch.length k1, .slice p2 (takeC l).ps.length k2, .int .i64 (takeC l).count, .int .i64 (takeC l).commit, .int .i64 (takeC l).dest, .string (str (takeC l).name)] 25) = w12 at *
    obtain ⟨b15, hb15⟩ : ∃ b, b = w11.heap.size := ⟨_, rfl⟩
    rw [← hb15] at H12 ⊢
    clear hb15
    have hnl : (takeC l).name.length ≤ 1000000 := by
      unfold takeC
      split
      · exact Nat.zero_le _
      · have := (tk_lens l).2.2.2.2.2.2.2.2.2.2
        show (tkNm l).1.length ≤ _
        omega
    have row15 : w12.heap[b15]? = some (.cells (cmdA (takeC l) p1 k1 p2 k2) 25) := H12.out.1
    have hpk := cPack_any (takeC l) p1 k1 p2 k2 w12 H12.out.2.2 hnl
    have htp := take_pack l
    obtain ⟨z0, z1, z2, z3, z4, z5, z6, z7⟩ := cmd_cells row15 (Upd.refl _ w12)
    unfold cmdV sv at hpk
    unfold sv at z1 z7
    have HPK := Lib.hid hpk
    have HTP := Lib.hid htp
    clear row15 hpk htp hnl
    generalize takeC l = q at *
    generalize takeE l = te at *
    go_upto_region 14 with (fail)
    have hpk := HPK.out
    go_wp2_with fail
    refine hpk.mono ?_
    unfold Packed
    rintro e w13 ⟨ay, cy, rfl, hvy, hfy, hU⟩
    have H13 := Lib.hid (H12.out.2.1.trans hU)
    have HY := Lib.hid hvy
    clear hU hvy hfy hpk HPK z0 z1 z2 z3 z4 z5 z6 z7 H12
    go_wp2_with fail
    refine (awake25_any _).mono ?_
    rintro e w14 ⟨rfl, hU⟩
    have H14 := Lib.hid (H13.out.trans hU)
    have HY14 := Lib.hid (HY.out.upd hU (fun _ _ h => h))
    clear hU H13 HY
    by_cases ht : te = 0
    · obtain ⟨hr0, hpl⟩ := HTP.out ht
      rw [hpl] at HY14 ⊢
      rw [hr0, ht]
      have hsb := sBytes_any ay a cy c0 l l w14 HY14.out (HV0.out.upd H14.out (fun _ _ h => h))
      rw [beq_self_eq_true] at hsb
      clear HTP hr0 hpl ht HY14
      go_wp2_with fail
      refine hsb.mono ?_
      rintro e w15 ⟨rfl, rfl⟩
      go_wp2_with fail
      go_ret
      exact ⟨rfl, H14.out.clean⟩
    · have htn : (te != 0) = true := by simpa using ht
      clear HTP ht HY14
      go_wp2_with fail
      go_ret
      exact ⟨rfl, H14.out.clean⟩
end Go.Proofs.YteefceainlfdfaaDoor
