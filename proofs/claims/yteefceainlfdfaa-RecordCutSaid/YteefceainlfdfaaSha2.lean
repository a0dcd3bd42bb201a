
/- SHA-256, spread: the words of a block. -/
import Derived.Test.YteefceainlfdfaaSha1
namespace Go.Proofs.Yteefceainlfdfaa
set_option linter.unusedSimpArgs false
set_option linter.unusedVariables false
open Go.ChangeShapes Go.WideShapes Go.ChangeAt Go.RowKit

/-- A word of four bytes. -/
def wordI (x0 x1 x2 x3 : UInt8) : Int := bits BinOp.or IntKind.u32 (bits BinOp.or IntKind.u32 (bits BinOp.or IntKind.u32 (IntKind.u32.wrap (IntKind.u32.wrap (x0.toNat : Int) * 16777216)) (IntKind.u32.wrap (IntKind.u32.wrap (x1.toNat : Int) * 65536))) (IntKind.u32.wrap (IntKind.u32.wrap (x2.toNat : Int) * 256))) (IntKind.u32.wrap (x3.toNat : Int))
/-- The words, so far. -/
def fillW (l : List UInt8) : Nat → List Int
  | 0 => List.replicate 64 0
  | k + 1 => (fillW l k).set k (wordI (l.getD (4 * k) 0) (l.getD (4 * k + 1) 0) (l.getD (4 * k + 2) 0) (l.getD (4 * k + 3) 0))
theorem fillW_length (l : List UInt8) (k : Nat) : (fillW l k).length = 64 := by induction k <;> simp [fillW, *]
def sig0 (b : Int) : Int := bits BinOp.xor IntKind.u32 (bits BinOp.xor IntKind.u32 (rotI b 7) (rotI b 18)) (b / 8)
def sig1 (d : Int) : Int := bits BinOp.xor IntKind.u32 (bits BinOp.xor IntKind.u32 (rotI d 17) (rotI d 19)) (d / 1024)
/-- A word more. -/
def nextI (a b c d : Int) : Int := IntKind.u32.wrap ((a + sig0 b + c) % 4294967296 + sig1 d)
def extW (ws : List Int) : Nat → List Int
  | 0 => ws
  | k + 1 => (extW ws k).set (16 + k) (nextI ((extW ws k).getD k 0) ((extW ws k).getD (k + 1) 0) ((extW ws k).getD (k + 9) 0) ((extW ws k).getD (k + 14) 0))
theorem extW_length (ws : List Int) (k : Nat) : (extW ws k).length = ws.length := by induction k <;> simp [extW, *]
/-- All words of a block. -/
def wordsW (l : List UInt8) : List Int := extW (fillW l 16) 48
theorem wordsW_length (l : List UInt8) : (wordsW l).length = 64 := by rw [wordsW, extW_length, fillW_length]
/-- A block, mixed in. -/
def blockI (K h : List Int) (l : List UInt8) : List Int := addW h (roundsI K (wordsW l) h 64) 8
theorem blockI_length (K h : List Int) (l : List UInt8) : (blockI K h l).length = h.length := addW_length _ _ _

set_option maxRecDepth 100000 in
set_option maxHeartbeats 4000000 in
theorem spread_any (a : Option Addr) (c : Nat) (l : List UInt8) (w : World) (hv : Vw w a 64 c 1 (bvs l)) (hl : l.length = 64) (hlb : ∀ b, blk a = some b → b < w.heap.size) :
    Calls Try.prog 40 #[.slice a 64 c] w fun e w' => e = .returned (.agg ((wordsW l).map uv).toArray) ∧ Upd (fun _ => False) w w' := by
  obtain ⟨b, off, rfl, hcell⟩ := hv.at (by omega) (by decide)
  have hb := hlb b rfl
  have hc64 := hv.le
  have hcap := hv.cap
  unfold maxLen at hcap
  go_enter Try.func40, Try.ntmps40
  go_wp2_with fail
  have hU1 := Upd.alloc (fun _ => False) w (.cells #[.int .u32 0, .int .u32 0, .int .u32 0, .int .u32 0, .int .u32 0, .int .u32 0, .int .u32 0, .int .u32 0, .int .u32 0, .int .u32 0, .int .u32 0, .int .u32 0, .int .u32 0, .int .u32 0, .int .u32 0, .int .u32 0, .int .u32 0, .int .u32 0, .int .u32 0, .int .u32 0, .int .u32 0, .int .u32 0, .int .u32 0, .int .u32 0, .int .u32 0, .int .u32 0, .int .u32 0, .int .u32 0, .int .u32 0, .int .u32 0, .int .u32 0, .int .u32 0, .int .u32 0, .int .u32 0, .int .u32 0, .int .u32 0, .int .u32 0, .int .u32 0, .int .u32 0, .int .u32 0, .int .u32 0, .int .u32 0, .int .u32 0, .int .u32 0, .int .u32 0, .int .u32 0, .int .u32 0, .int .u32 0, .int .u32 0, .int .u32 0, .int .u32 0, .int .u32 0, .int .u32 0, .int .u32 0, .int .u32 0, .int .u32 0, .int .u32 0, .int .u32 0, .int .u32 0, .int .u32 0, .int .u32 0, .int .u32 0, .int .u32 0, .int .u32 0] 60)
  have hrow := heap_alloc_new w (.cells #[.int .u32 0, .int .u32 0, .int .u32 0, .int .u32 0, .int .u32 0, .int .u32 0, .int .u32 0, .int .u32 0, .int .u32 0, .int .u32 0, .int .u32 0, .int .u32 0, .int .u32 0, .int .u32 0, .int .u32 0, .int .u32 0, .int .u32 0, .int .u32 0, .int .u32 0, .int .u32 0, .int .u32 0, .int .u32 0, .int .u32 0, .int .u32 0, .int .u32 0, .int .u32 0, .int .u32 0, .int .u32 0, .int .u32 0, .int .u32 0, .int .u32 0, .int .u32 0, .int .u32 0, .int .u32 0, .int .u32 0, .int .u32 0, .int .u32 0, .int .u32 0, .int .u32 0, .int .u32 0, .int .u32 0, .int .u32 0, .int .u32 0, .int .u32 0, .int .u32 0, .int .u32 0, .int .u32 0, .int .u32 0, .int .u32 0, .int .u32 0, .int .u32 0, .int .u32 0, .int .u32 0, .int .u32 0, .int .u32 0, .int .u32 0, .int .u32 0, .int .u32 0, .int .u32 0, .int .u32 0, .int .u32 0, .int .u32 0, .int .u32 0, .int .u32 0] 60)
  generalize hw1 : w.alloc (.cells #[.int .u32 0, .int .u32 0, .int .u32 0, .int .u32 0, .int .u32 0, .int .u32 0, .int .u32 0, .int .u32 0, .int .u32 0, .int .u32 0, .int .u32 0, .int .u32 0, .int .u32 0, .int .u32 0, .int .u32 0, .int .u32 0, .int .u32 0, .int .u32 0, .int .u32 0, .int .u32 0, .int .u32 0, .int .u32 0, .int .u32 0, .int .u32 0, .int .u32 0, .int .u32 0, .int .u32 0, .int .u32 0, .int .u32 0, .int .u32 0, .int .u32 0, .int .u32 0, .int .u32 0, .int .u32 0, .int .u32 0, .int .u32 0, .int .u32 0, .int .u32 0, .int .u32 0, .int .u32 0, .int .u32 0, .int .u32 0, .int .u32 0, .int .u32 0, .int .u32 0, .int .u32 0, .int .u32 0, .int .u32 0, .int .u32 0, .int .u32 0, .int .u32 0, .int .u32 0, .int .u32 0, .int .u32 0, .int .u32 0, .int .u32 0, .int .u32 0, .int .u32 0, .int .u32 0, .int .u32 0, .int .u32 0, .int .u32 0, .int .u32 0, .int .u32 0] 60) = w1 at *
  have hU2 := Upd.alloc (fun _ => False) w1 (.cells #[.int .u32 0, .int .u32 0, .int .u32 0, .int .u32 0, .int .u32 0, .int .u32 0, .int .u32 0, .int .u32 0, .int .u32 0, .int .u32 0, .int .u32 0, .int .u32 0, .int .u32 0, .int .u32 0, .int .u32 0, .int .u32 0, .int .u32 0, .int .u32 0, .int .u32 0, .int .u32 0, .int .u32 0, .int .u32 0, .int .u32 0, .int .u32 0, .int .u32 0, .int .u32 0, .int .u32 0, .int .u32 0, .int .u32 0, .int .u32 0, .int .u32 0, .int .u32 0, .int .u32 0, .int .u32 0, .int .u32 0, .int .u32 0, .int .u32 0, .int .u32 0, .int .u32 0, .int .u32 0, .int .u32 0, .int .u32 0, .int .u32 0, .int .u32 0, .int .u32 0, .int .u32 0, .int .u32 0, .int .u32 0, .int .u32 0, .int .u32 0, .int .u32 0, .int .u32 0, .int .u32 0, .int .u32 0, .int .u32 0, .int .u32 0, .int .u32 0, .int .u32 0, .int .u32 0, .int .u32 0, .int .u32 0, .int .u32 0, .int .u32 0, .int .u32 0] 60)
  have hrow2 := heap_alloc_new w1 (.cells #[.int .u32 0, .int .u32 0, .int .u32 0, .int .u32 0, .int .u32 0, .int .u32 0, .int .u32 0, .int .u32 0, .int .u32 0, .int .u32 0, .int .u32 0, .int .u32 0, .int .u32 0, .int .u32 0, .int .u32 0, .int .u32 0, .int .u32 0, .int .u32 0, .int .u32 0, .int .u32 0, .int .u32 0, .int .u32 0, .int .u32 0, .int .u32 0, .int .u32 0, .int .u32 0, .int .u32 0, .int .u32 0, .int .u32 0, .int .u32 0, .int .u32 0, .int .u32 0, .int .u32 0, .int .u32 0, .int .u32 0, .int .u32 0, .int .u32 0, .int .u32 0, .int .u32 0, .int .u32 0, .int .u32 0, .int .u32 0, .int .u32 0, .int .u32 0, .int .u32 0, .int .u32 0, .int .u32 0, .int .u32 0, .int .u32 0, .int .u32 0, .int .u32 0, .int .u32 0, .int .u32 0, .int .u32 0, .int .u32 0, .int .u32 0, .int .u32 0, .int .u32 0, .int .u32 0, .int .u32 0, .int .u32 0, .int .u32 0, .int .u32 0, .int .u32 0] 60)
  have hz1 : w1.heap.size = w.heap.size + 1 := by rw [← hw1]; simp
  generalize hw2 : w1.alloc (.cells #[.int .u32 0, .int .u32 0, .int .u32 0, .int .u32 0, .int .u32 0, .int .u32 0, .int .u32 0, .int .u32 0, .int .u32 0, .int .u32 0, .int .u32 0, .int .u32 0, .int .u32 0, .int .u32 0, .int .u32 0, .int .u32 0, .int .u32 0, .int .u32 0, .int .u32 0, .int .u32 0, .int .u32 0, .int .u32 0, .int .u32 0, .int .u32 0, .int .u32 0, .int .u32 0, .int .u32 0, .int .u32 0, .int .u32 0, .int .u32 0, .int .u32 0, .int .u32 0, .int .u32 0, .int .u32 0, .int .u32 0, .int .u32 0, .int .u32 0, .int .u32 0, .int .u32 0, .int .u32 0, .int .u32 0, .int .u32 0, .int .u32 0, .int .u32 0, .int .u32 0, .int .u32 0, .int .u32 0, .int .u32 0, .int .u32 0, .int .u32 0, .int .u32 0, .int .u32 0, .int .u32 0, .int .u32 0, .int .u32 0, .int .u32 0, .int .u32 0, .int .u32 0, .int .u32 0, .int .u32 0, .int .u32 0, .int .u32 0, .int .u32 0, .int .u32 0] 60) = w2 at *
  have hz2 : w2.heap.size = w.heap.size + 2 := by rw [← hw2]; simp; omega
  have HW1 := Lib.hid hw1
  have HW2 := Lib.hid hw2
  clear hw1 hw2
  have hA0 : Arr w2 (w.heap.size + 1) 60 (List.replicate 64 0) := hz1 ▸ hrow2
  have hR0 : Arr w2 w.heap.size 60 (List.replicate 64 0) := Arr.upd (ws := List.replicate 64 0) (show Arr w1 w.heap.size 60 (List.replicate 64 0) from hrow) hU2 (fun h => h)
  clear hrow hrow2
  go_loopw [4, 8] (fun i i8 wx => ∃ k : Nat, k ≤ 16 ∧ i8 = .int .i64 (k : Int) ∧ Arr wx (w.heap.size + 1) 60 (fillW l k) ∧ Upd (fun i => i = w.heap.size + 1) w2 wx) (fun _ i _ => 16 - (intOf i).toNat)
  case atStart => exact ⟨0, by omega, rfl, hA0, Upd.refl _ _⟩
  case round =>
    obtain ⟨k, hk, rfl, hA, hU⟩ := hrel
    have hws := fillW_length l k
    clear hA0
    have hz3 := hU.size
    by_cases hlt : k < 16
    · have hl' : ∀ j, j < 64 → wr.cell? ⟨b, off + j, none⟩ = some (bv (l.getD j 0)) := fun j hj => by
        have := hcell j _ (bvs_get l j (by omega))
        have hbx : (w2.cell? ⟨b, off + j, none⟩) = w.cell? ⟨b, off + j, none⟩ := by
          rw [hU2.cell (by show b < w1.heap.size; omega) (fun h => h), hU1.cell hb (fun h => h)]
        rw [hU.cell (by show b < w2.heap.size; omega) (by show ¬ b = w.heap.size + 1; omega), hbx]
        simpa [bv, List.getElem?_eq_getElem (show j < l.length by omega)] using this
      have hI : (k : Int) < 16 := by omega
      have hI64 : (k : Int) < 64 := by omega
      have q0 := hl' (4 * k) (by omega)
      have q1 := hl' (4 * k + 1) (by omega)
      have q2 := hl' (4 * k + 2) (by omega)
      have q3 := hl' (4 * k + 3) (by omega)
      unfold bv at q0 q1 q2 q3
      have p0 : 0 ≤ 4 * (k : Int) := by omega
      have p0' : 4 * (k : Int) < 64 := by omega
      have t0 : (4 * (k : Int)).toNat = 4 * k := by omega
      have p1 : 0 ≤ 4 * (k : Int) + 1 := by omega
      have p1' : 4 * (k : Int) + 1 < 64 := by omega
      have t1 : (4 * (k : Int) + 1).toNat = 4 * k + 1 := by omega
      have p2 : 0 ≤ 4 * (k : Int) + 2 := by omega
      have p2' : 4 * (k : Int) + 2 < 64 := by omega
      have t2 : (4 * (k : Int) + 2).toNat = 4 * k + 2 := by omega
      have p3 : 0 ≤ 4 * (k : Int) + 3 := by omega
      have p3' : 4 * (k : Int) + 3 < 64 := by omega
      have t3 : (4 * (k : Int) + 3).toNat = 4 * k + 3 := by omega
      have m0 : IntKind.i64.wrap (4 * (k : Int)) = 4 * (k : Int) := IntWalk.i64_in _ (by omega)
      have m1 : IntKind.i64.wrap (4 * (k : Int) + 1) = 4 * (k : Int) + 1 := IntWalk.i64_in _ (by omega)
      have m2 : IntKind.i64.wrap (4 * (k : Int) + 2) = 4 * (k : Int) + 2 := IntWalk.i64_in _ (by omega)
      have m3 : IntKind.i64.wrap (4 * (k : Int) + 3) = 4 * (k : Int) + 3 := IntWalk.i64_in _ (by omega)
      have hf := hA.thaw k
      have hcx := hA.cell k (by omega)
      clear hl' hcell
      go_wp2_with fail
      refine wp_region_plan_last [([0, 1, 2, 3, 4, 5, 6, 7, 8, 9, 10, 11, 12, 13, 14, 15, 16, 17, 18, 19, 20, 21, 22, 23, 24, 25, 26, 27, 28, 29, 30, 31, 32, 33, 34], 35)] [] (fun w' => w'.cell? ⟨b, off + 4 * k, none⟩ = some (.int .u8 (l.getD (4 * k) 0).toNat) ∧ w'.cell? ⟨b, off + (4 * k + 1), none⟩ = some (.int .u8 (l.getD (4 * k + 1) 0).toNat) ∧ w'.cell? ⟨b, off + (4 * k + 2), none⟩ = some (.int .u8 (l.getD (4 * k + 2) 0).toNat) ∧ w'.cell? ⟨b, off + (4 * k + 3), none⟩ = some (.int .u8 (l.getD (4 * k + 3) 0).toNat)) (by kernel_rfl) (by kernel_rfl) ⟨q0, q1, q2, q3⟩ ?_
      have hnw : (fillW l k).set k (wordI (l.getD (4 * k) 0) (l.getD (4 * k + 1) 0) (l.getD (4 * k + 2) 0) (l.getD (4 * k + 3) 0)) = fillW l (k + 1) := rfl
      generalize l.getD (4 * k) 0 = x0 at *
      generalize l.getD (4 * k + 1) 0 = x1 at *
      generalize l.getD (4 * k + 2) 0 = x2 at *
      generalize l.getD (4 * k + 3) 0 = x3 at *
      have HNW := Lib.hid hnw
      clear hnw
      iterate 35
        refine plan_take (v := ?_) rfl rfl (fun w' hS => ?_) ?_
        rotate_left
        · obtain ⟨hS1, hS2, hS3, hS4⟩ := hS
          go_simp; try with_reducible rfl
        simp only [Act.put, List.getElem_toArray, List.getElem_cons_zero, List.getElem_cons_succ, List.setIfInBounds_toArray, List.set_cons_zero, List.set_cons_succ]
      rw [show bits BinOp.or IntKind.u32 (bits BinOp.or IntKind.u32 (bits BinOp.or IntKind.u32 (IntKind.u32.wrap (IntKind.u32.wrap (x0.toNat : Int) * 16777216)) (IntKind.u32.wrap (IntKind.u32.wrap (x1.toNat : Int) * 65536))) (IntKind.u32.wrap (IntKind.u32.wrap (x2.toNat : Int) * 256))) (IntKind.u32.wrap (x3.toNat : Int)) = wordI x0 x1 x2 x3 from rfl]
      generalize hwd : wordI x0 x1 x2 x3 = wd
      have HWD := Lib.hid hwd
      clear hwd
      refine plan_act rfl (fun K hK => ?_)
      go_wp2_with fail
      refine hK.out _ _ (.inl rfl) ?_
      refine plan_end ?_
      go_wp2_with fail
      have hA' : Arr (wr.setCell ⟨w.heap.size + 1, k, none⟩ (.int .u32 wd)).drew (w.heap.size + 1) 60 (fillW l (k + 1)) := by
        have := hA.set k wd
        rw [← HWD.out, HNW.out] at this
        rw [← HWD.out]
        exact this
      have hU' : Upd (fun i => i = w.heap.size + 1) w2 (wr.setCell ⟨w.heap.size + 1, k, none⟩ (.int .u32 wd)).drew := (hU.trans (Upd.setCell (S := fun i => i = w.heap.size + 1) wr (p := ⟨w.heap.size + 1, k, none⟩) rfl _)).trans (Upd.drew _ _)
      go_roundw
      case rel => exact ⟨k + 1, by omega, by first | rfl | go_num, hA', hU'⟩
      case measure => simp [intOf]; omega
    · obtain rfl : k = 16 := by omega
      go_wp2_with fail
      go_loopw [5] (fun i wx => ∃ n : Nat, 16 ≤ n ∧ n ≤ 64 ∧ i = .int .i64 (n : Int) ∧ Arr wx (w.heap.size + 1) 60 (extW (fillW l 16) (n - 16)) ∧ Upd (fun i => i = w.heap.size + 1) w2 wx) (fun i _ => 64 - (intOf i).toNat)
      case atStart => exact ⟨16, by omega, by omega, rfl, hA, hU⟩
      case round =>
        obtain ⟨n, hn16, hn, rfl, hA, hU⟩ := hrel
        have hws := extW_length (fillW l 16) (n - 16)
        rw [fillW_length] at hws
        obtain ⟨k, hk⟩ : ∃ k, k = n - 16 := ⟨_, rfl⟩
        rw [← hk] at hA hws
        by_cases hlt : n < 64
        · have hnk : n = 16 + k := by omega
          have HNK := Lib.hid hnk
          have hI : (n : Int) < 64 := by omega
          have m16 : IntKind.i64.wrap ((n : Int) - 16) = (n : Int) - 16 := IntWalk.i64_in _ (by omega)
          have p16 : 0 ≤ (n : Int) - 16 := by omega
          have p16' : (n : Int) - 16 < 64 := by omega
          have t16 : ((n : Int) - 16).toNat = k := by omega
          have c16 := hA.cell (k) (by omega)
          have m15 : IntKind.i64.wrap ((n : Int) - 15) = (n : Int) - 15 := IntWalk.i64_in _ (by omega)
          have p15 : 0 ≤ (n : Int) - 15 := by omega
          have p15' : (n : Int) - 15 < 64 := by omega
          have t15 : ((n : Int) - 15).toNat = k + 1 := by omega
          have c15 := hA.cell (k + 1) (by omega)
          have m7 : IntKind.i64.wrap ((n : Int) - 7) = (n : Int) - 7 := IntWalk.i64_in _ (by omega)
          have p7 : 0 ≤ (n : Int) - 7 := by omega
          have p7' : (n : Int) - 7 < 64 := by omega
          have t7 : ((n : Int) - 7).toNat = k + 9 := by omega
          have c7 := hA.cell (k + 9) (by omega)
          have m2 : IntKind.i64.wrap ((n : Int) - 2) = (n : Int) - 2 := IntWalk.i64_in _ (by omega)
          have p2 : 0 ≤ (n : Int) - 2 := by omega
          have p2' : (n : Int) - 2 < 64 := by omega
          have t2 : ((n : Int) - 2).toNat = k + 14 := by omega
          have c2 := hA.cell (k + 14) (by omega)
          have g16 : (16 : Int) ≤ (n : Int) := by omega
          have g15 : (15 : Int) ≤ (n : Int) := by omega
          have g7 : (7 : Int) ≤ (n : Int) := by omega
          have g2 : (2 : Int) ≤ (n : Int) := by omega
          have hf := hA.thaw n
          have hcx := hA.cell n (by omega)
          have hS : nextI ((extW (fillW l 16) k).getD k 0) ((extW (fillW l 16) k).getD (k + 1) 0) ((extW (fillW l 16) k).getD (k + 9) 0) ((extW (fillW l 16) k).getD (k + 14) 0) = nextI ((extW (fillW l 16) k).getD k 0) ((extW (fillW l 16) k).getD (k + 1) 0) ((extW (fillW l 16) k).getD (k + 9) 0) ((extW (fillW l 16) k).getD (k + 14) 0) := rfl
          have hnew : (extW (fillW l 16) k).set n (nextI ((extW (fillW l 16) k).getD k 0) ((extW (fillW l 16) k).getD (k + 1) 0) ((extW (fillW l 16) k).getD (k + 9) 0) ((extW (fillW l 16) k).getD (k + 14) 0)) = extW (fillW l 16) (k + 1) := by
            rw [hnk]; rfl
          generalize extW (fillW l 16) k = ws at *
          generalize ws.getD k 0 = ga at *
          generalize ws.getD (k + 1) 0 = gb at *
          generalize ws.getD (k + 9) 0 = gc at *
          generalize ws.getD (k + 14) 0 = gd at *
          have HNEW := Lib.hid hnew
          clear hnew hS hnk hk hlt
          go_wp2_with fail
          refine wp_region_plan_last [] [0, 1, 2, 3, 4, 5, 6, 7, 8, 9] (fun w' => w'.cell? ⟨w.heap.size + 1, k, none⟩ = some (.int .u32 ga) ∧ w'.cell? ⟨w.heap.size + 1, k + 1, none⟩ = some (.int .u32 gb) ∧ w'.cell? ⟨w.heap.size + 1, k + 9, none⟩ = some (.int .u32 gc) ∧ w'.cell? ⟨w.heap.size + 1, k + 14, none⟩ = some (.int .u32 gd)) (by kernel_rfl) (by kernel_rfl) ⟨c16, c15, c7, c2⟩ ?_
          iterate 10
            refine plan_last (v := ?_) rfl rfl (fun w' hS => ?_) ?_
            rotate_left
            · obtain ⟨hS1, hS2, hS3, hS4⟩ := hS
              go_simp; try with_reducible rfl
            simp only [Act.put, List.getElem_toArray, List.getElem_cons_zero, List.getElem_cons_succ, List.setIfInBounds_toArray, List.set_cons_zero, List.set_cons_succ]
          refine plan_end ?_
          go_wp2_with fail
          refine wp_region_plan_last [([0, 1, 2, 3, 4, 5, 7, 10, 11, 14, 15, 16, 17, 19, 21, 24, 25], 6), ([], 8), ([9, 12, 13, 18], 20), ([], 22), ([23, 26, 27, 28], 29)] [] (fun w' => w'.cell? ⟨w.heap.size + 1, k, none⟩ = some (.int .u32 ga) ∧ w'.cell? ⟨w.heap.size + 1, k + 1, none⟩ = some (.int .u32 gb) ∧ w'.cell? ⟨w.heap.size + 1, k + 9, none⟩ = some (.int .u32 gc) ∧ w'.cell? ⟨w.heap.size + 1, k + 14, none⟩ = some (.int .u32 gd)) (by kernel_rfl) (by kernel_rfl) ⟨c16, c15, c7, c2⟩ ?_
          iterate 17
            refine plan_take (v := ?_) rfl rfl (fun w' hS => ?_) ?_
            rotate_left
            · obtain ⟨hS1, hS2, hS3, hS4⟩ := hS
              go_simp; try with_reducible rfl
            simp only [Act.put, List.getElem_toArray, List.getElem_cons_zero, List.getElem_cons_succ, List.setIfInBounds_toArray, List.set_cons_zero, List.set_cons_succ]
          refine plan_act rfl (fun K hK => ?_)
          go_wp2_with fail
          refine (right_any gb 7 wr.drew.drew (by decide) (by decide)).mono ?_
          rintro e w' ⟨rfl, rfl⟩
          unfold uv
          go_wp2_with fail
          refine hK.out _ _ (.inr ⟨c16, c15, c7, c2⟩) ?_
          refine plan_act rfl (fun K hK => ?_)
          go_wp2_with fail
          refine (right_any gb 18 wr.drew.drew (by decide) (by decide)).mono ?_
          rintro e w' ⟨rfl, rfl⟩
          unfold uv
          go_wp2_with fail
          refine hK.out _ _ (.inr ⟨c16, c15, c7, c2⟩) ?_
          iterate 4
            refine plan_take (v := ?_) rfl rfl (fun w' hS => ?_) ?_
            rotate_left
            · obtain ⟨hS1, hS2, hS3, hS4⟩ := hS
              go_simp; try with_reducible rfl
            simp only [Act.put, List.getElem_toArray, List.getElem_cons_zero, List.getElem_cons_succ, List.setIfInBounds_toArray, List.set_cons_zero, List.set_cons_succ]
          refine plan_act rfl (fun K hK => ?_)
          go_wp2_with fail
          refine (right_any gd 17 wr.drew.drew (by decide) (by decide)).mono ?_
          rintro e w' ⟨rfl, rfl⟩
          unfold uv
          go_wp2_with fail
          refine hK.out _ _ (.inr ⟨c16, c15, c7, c2⟩) ?_
          refine plan_act rfl (fun K hK => ?_)
          go_wp2_with fail
          refine (right_any gd 19 wr.drew.drew (by decide) (by decide)).mono ?_
          rintro e w' ⟨rfl, rfl⟩
          unfold uv
          go_wp2_with fail
          refine hK.out _ _ (.inr ⟨c16, c15, c7, c2⟩) ?_
          obtain ⟨wd, hwd⟩ : ∃ wd, nextI ga gb gc gd = wd := ⟨_, rfl⟩
          have HWD := Lib.hid hwd
          clear hwd
          iterate 2
            refine plan_take (v := ?_) rfl rfl (fun w' hS => ?_) ?_
            rotate_left
            · obtain ⟨hS1, hS2, hS3, hS4⟩ := hS
              go_simp; try with_reducible rfl
            simp only [Act.put, List.getElem_toArray, List.getElem_cons_zero, List.getElem_cons_succ, List.setIfInBounds_toArray, List.set_cons_zero, List.set_cons_succ]
          refine plan_take (v := .int .u32 wd) rfl rfl (fun w' hS => ?_) ?_
          · go_simp
            rw [← HWD.out]
            rfl
          simp only [Act.put, List.getElem_toArray, List.getElem_cons_zero, List.getElem_cons_succ, List.setIfInBounds_toArray, List.set_cons_zero, List.set_cons_succ]
          refine plan_take (v := ?_) rfl rfl (fun w' hS => ?_) ?_
          rotate_left
          · go_simp; try with_reducible rfl
          simp only [Act.put, List.getElem_toArray, List.getElem_cons_zero, List.getElem_cons_succ, List.setIfInBounds_toArray, List.set_cons_zero, List.set_cons_succ]
          refine plan_act rfl (fun K hK => ?_)
          go_wp2_with fail
          refine hK.out _ _ (.inl rfl) ?_
          refine plan_end ?_
          go_wp2_with fail
          have hA' : Arr (wr.drew.drew.setCell ⟨w.heap.size + 1, n, none⟩ (.int .u32 wd)) (w.heap.size + 1) 60 (extW (fillW l 16) (k + 1)) := by
            have := Arr.set (w := wr.drew.drew) (show Arr wr.drew.drew (w.heap.size + 1) 60 ws from hA) n wd
            rw [← HWD.out, HNEW.out] at this
            rw [← HWD.out]
            exact this
          have hU' : Upd (fun i => i = w.heap.size + 1) w2 (wr.drew.drew.setCell ⟨w.heap.size + 1, n, none⟩ (.int .u32 wd)) := ((hU.trans (Upd.drew _ _)).trans (Upd.drew _ _)).trans (Upd.setCell (S := fun i => i = w.heap.size + 1) wr.drew.drew (p := ⟨w.heap.size + 1, n, none⟩) rfl _)
          go_roundw
          case rel =>
            refine ⟨n + 1, by omega, by omega, by first | rfl | go_num, ?_, hU'⟩
            rw [show n + 1 - 16 = k + 1 from by have := HNK.out; omega]
            exact hA'
          case measure => simp [intOf]; omega
        · obtain rfl : n = 64 := by omega
          have hws' : k = 48 := by omega
          have hkw : extW (fillW l 16) k = wordsW l := by rw [hws']; rfl
          rw [hkw] at hA hws
          generalize hww : wordsW l = ws at *
          have HWW := Lib.hid hww
          clear hww hkw hws' hk hlt
          go_upto_region 12 with (fail)
          have hi75 : (Try.prog.info? 60).map (·.size) = some (ws.map uv).toArray.size := by
            rw [show (Try.prog.info? 60).map (·.size) = some 64 from by kernel_rfl]
            simp [hws]
          have hRw : wr.heap[w.heap.size]? = some (.cells ((List.replicate 64 (0 : Int)).map uv).toArray 60 (0, 0)) :=
            Arr.upd (ws := List.replicate 64 0) hR0 hU (by show ¬ w.heap.size = w.heap.size + 1; omega)
          have hz0 : ((List.replicate 64 (0 : Int)).map uv).toArray.size = (ws.map uv).toArray.size := by simp [hws]
          generalize ((List.replicate 64 (0 : Int)).map uv).toArray = z0 at *
          go_wp2_with (first
            | (refine wpList_load_row rfl 60 (.tmp 3) rfl (w.heap.size + 1) (ws.map uv).toArray 60 (0, 0) _ rfl hA Try.underlying60 rfl hi75 ?_)
            | (refine wpList_store_row rfl 60 (.tmp 2) (.tmp 88) rfl w.heap.size (ws.map uv).toArray z0 60 rfl rfl hRw hi75 hz0 (uvs_one ws) ?_))
          refine ret_row rfl w.heap.size (ws.map uv).toArray 60 (0, 0) _ rfl (setRow_heap _ _ _ _ _ _ hRw) Try.underlying60 rfl hi75 rfl ⟨?_, ?_⟩
          · rw [HWW.out]
          · exact ((hU1.trans hU2).next hU (fun i hi e => by subst e; exact absurd hi (by omega))).next (Upd.setRow (S := fun i => i = w.heap.size) wr rfl _) (fun i hi e => by subst e; exact absurd hi (by omega))
end Go.Proofs.Yteefceainlfdfaa
