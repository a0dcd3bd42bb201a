/- A name, written: digest.Hex. -/
import Derived.Test.YtafkcmgfkecljaaSum2
namespace Go.Proofs.Ytafkcmgfkecljaa
set_option linter.unusedSimpArgs false
set_option linter.unusedVariables false
open Go.ChangeShapes Go.WideShapes Go.ChangeAt Go.RowKit

def digs : List UInt8 := [48, 49, 50, 51, 52, 53, 54, 55, 56, 57, 97, 98, 99, 100, 101, 102]
def dig (n : Nat) : UInt8 := digs.getD n 0
def hexL (k : List UInt8) : List UInt8 := k.flatMap fun b => [dig (b.toNat / 16), dig (b.toNat % 16)]
theorem hexL_length (k : List UInt8) : (hexL k).length = 2 * k.length := by
  induction k with
  | nil => rfl
  | cons b k ih => simp [hexL] at *; omega
theorem hexL_snoc (k : List UInt8) (b : UInt8) : hexL (k ++ [b]) = hexL k ++ [dig (b.toNat / 16), dig (b.toNat % 16)] := by simp [hexL]
theorem dig_at (n : Nat) (hn : n < 16) (w : World) : (Instr.index 9 (.string ⟨#[48, 49, 50, 51, 52, 53, 54, 55, 56, 57, 97, 98, 99, 100, 101, 102]⟩) (.int .u8 (n : Int))).run Try.prog w = .ok (.int .u8 ((dig n).toNat : Int)) w := by
  rw [run_index_string _ _ _ _ _ Try.underlying9]
  have h : (0 : Int) ≤ (n : Int) ∧ (n : Int) < ((⟨#[48, 49, 50, 51, 52, 53, 54, 55, 56, 57, 97, 98, 99, 100, 101, 102]⟩ : ByteArray).size : Int) := ⟨by omega, by show (n : Int) < 16; omega⟩
  rw [dif_pos h]
  have key : ∀ m : Fin 16, (⟨#[48, 49, 50, 51, 52, 53, 54, 55, 56, 57, 97, 98, 99, 100, 101, 102]⟩ : ByteArray)[m.val]'(m.isLt) = dig m.val := by decide
  have := key ⟨n, hn⟩
  simp only [Int.toNat_natCast]
  simp only at this
  rw [this]
theorem Buf.app2 {B : Nat} {w w2 : World} {a a2 : Option Addr} {c2 : Nat} {L : List UInt8} {x y : UInt8} {o : Obj} {xs : List Value} (hG : ∀ g, blk a = some g → B ≤ g) (hB : B ≤ w.heap.size) (hx : xs = bvs L ++ [bv x, bv y])
    (hown2 : w2.ownsRow 0 5 1 (.slice a2 (L.length + 2) c2) (L.length + 2) xs) (hg2 : (w.alloc o).grownBy w2 (blk a)) (hat2 : blk a2 = blk a ∨ blk a2 = some (w.heap.size + 1)) :
    Buf B w2 (.slice a2 (L.length + 2) c2) (L ++ [x, y]) ∧ Upd (fun i => B ≤ i) w w2 := by
  subst hx
  refine ⟨⟨a2, c2, by simp, by simpa [bvs] using hown2, ?_⟩, ?_⟩
  · intro g hg'
    rcases hat2 with h | h
    · exact hG g (h.symm.trans hg')
    · rw [h] at hg'; cases hg'; omega
  · exact (Upd.alloc (fun i => B ≤ i) w o).next (Upd.grown (S := fun k => blk a = some k) hg2 (fun k hk => hk)) (fun i hi hs => hG i hs)
theorem and15 : ∀ m : Fin 256, bits BinOp.and IntKind.u8 (m.val : Int) 15 = ((m.val % 16 : Nat) : Int) := by decide +kernel
theorem index_key (cs : Array Value) (hn : cs.size = 32) (k : Nat) (v : Value) (hv : cs[k]? = some v) (w : World) :
    (Instr.index 32 (.agg cs) (.int .i64 (k : Int))).run Try.prog w = .ok v w := by
  obtain ⟨hk, hv⟩ := Array.getElem?_eq_some_iff.1 hv
  have h3 : (k : Int) < 32 := by omega
  have h4 : k < 32 := by omega
  simp [Instr.index, asIntOf, h3, h4, hk, hv, part]
  try omega

set_option maxRecDepth 100000 in
set_option maxHeartbeats 4000000 in
theorem hex_any (k : List UInt8) (w : World) (hk : k.length = 32) :
    Calls Try.prog 19 #[.agg (bvs k).toArray] w fun e w' => e = .returned (.string (str (hexL k))) ∧ Upd (fun _ => False) w w' := by
  obtain ⟨i0, hi, hz0, hz1, hz2⟩ := info_parts infoU8
  have hiK : (Try.prog.info? 32).map (·.size) = some (bvs k).toArray.size := by
    rw [show (Try.prog.info? 32).map (·.size) = some 32 from by kernel_rfl]; simp [bvs, hk]
  have hix : ∀ n : Nat, n < 32 → ∀ w, (Instr.index 32 (.agg (bvs k).toArray) (.int .i64 (n : Int))).run Try.prog w = .ok (.int .u8 ((k.getD n 0).toNat : Int)) w := fun n hn w =>
    index_key _ (by simp [bvs, hk]) n _ (by simp [bvs, bv, List.getElem?_eq_getElem (show n < k.length by omega)]) w
  obtain ⟨k0, hk0⟩ : ∃ k0, (bvs k).toArray = k0 := ⟨_, rfl⟩
  rw [hk0] at hiK hix ⊢
  have HIX := Lib.hid hix
  clear hk0 hix
  go_enter Try.func19, Try.ntmps19
  go_upto_region 2 with (fail)
  go_wp2_with ((with_reducible show wpList _ _ _ (Oper.mk _ (Op.load _ _) _ _ _ _ :: _) _ _); refine wpList_load_row rfl 32 (.tmp 1) rfl w.heap.size k0 32 (0, 0) _ rfl (heap_alloc_new w _) Try.underlying32 rfl hiK ?_)
  have hU1 : Upd (fun i => w.heap.size ≤ i) w (w.alloc (Obj.cells k0 32)) := Upd.alloc _ _ _
  generalize w.alloc (Obj.cells k0 32) = w1 at *
  go_loopw [3, 7] (fun v i wx => ∃ (n : Nat) (L : List UInt8), n ≤ 32 ∧ i = .int .i64 (n : Int) ∧ Hid (L = hexL (k.take n)) ∧ L.length = 2 * n ∧ Buf w.heap.size wx v L ∧ Upd (fun i => w.heap.size ≤ i) w wx) (fun _ i _ => 32 - (intOf i).toNat)
  case atStart => exact ⟨0, [], by omega, rfl, (by show _ = _; simp [hexL]), rfl, ⟨none, 0, rfl, World.ownsRow_nil _ _ _ _, (fun g h => by cases h)⟩, hU1⟩
  case round =>
    clear hU1
    obtain ⟨n, L, hn, rfl, hL, hlen, ⟨a', c', rfl, hown, hG⟩, hU⟩ := hrel
    have hBw := hU.size
    by_cases hlt : n < 32
    · have hI : (n : Int) < 32 := by omega
      have hixn := HIX.out n hlt
      have hL2 : L ++ [dig ((k.getD n 0).toNat / 16), dig ((k.getD n 0).toNat % 16)] = hexL (k.take (n + 1)) := by
        rw [hL.out, List.take_add_one, show k[n]?.toList = [k.getD n 0] from by simp [List.getElem?_eq_getElem (show n < k.length by omega)], hexL_snoc]
      generalize k.getD n 0 = x at *
      have hx := x.toNat_lt
      have hd1 := fun w => (show (Instr.index 9 (.string ⟨#[48, 49, 50, 51, 52, 53, 54, 55, 56, 57, 97, 98, 99, 100, 101, 102]⟩) (.int .u8 ((x.toNat : Int) / 16))).run Try.prog w = .ok (.int .u8 ((dig (x.toNat / 16)).toNat : Int)) w from dig_at (x.toNat / 16) (by omega) w)
      have h15 := and15 ⟨x.toNat, hx⟩
      dsimp only at h15
      have hd2 := dig_at (x.toNat % 16) (by omega)
      rw [← h15] at hd2
      clear h15
      obtain ⟨d1, hd1'⟩ : ∃ d1, dig (x.toNat / 16) = d1 := ⟨_, rfl⟩
      obtain ⟨d2, hd2'⟩ : ∃ d2, dig (x.toNat % 16) = d2 := ⟨_, rfl⟩
      rw [hd1'] at hd1 hL2
      rw [hd2'] at hd2 hL2
      have HL2 := Lib.hid hL2
      have hlL : L.length ≤ 100 := by omega
      have HLEN := Lib.hid hlen
      clear hd1' hd2' hL2 hlen hlt
      go_upto_region 5 with (fail)
      refine wp_region_plan_last [([0, 1, 2, 3, 4, 5, 6], 7), ([], 8)] [9] (fun _ => True) (by kernel_rfl) (by kernel_rfl) trivial ?_
      iterate 3
        refine plan_take (v := ?_) rfl rfl (fun w' hS => ?_) ?_
        rotate_left
        · skip
          go_simp; try with_reducible rfl
        simp only [Act.put, List.getElem_toArray, List.getElem_cons_zero, List.getElem_cons_succ, List.setIfInBounds_toArray, List.set_cons_zero, List.set_cons_succ]
      refine plan_take (v := .int .u8 (d1.toNat : Int)) rfl rfl (fun w' hS => ?_) ?_
      · go_simp
      simp only [Act.put, List.getElem_toArray, List.getElem_cons_zero, List.getElem_cons_succ, List.setIfInBounds_toArray, List.set_cons_zero, List.set_cons_succ]
      iterate 2
        refine plan_take (v := ?_) rfl rfl (fun w' hS => ?_) ?_
        rotate_left
        · skip
          go_simp; try with_reducible rfl
        simp only [Act.put, List.getElem_toArray, List.getElem_cons_zero, List.getElem_cons_succ, List.setIfInBounds_toArray, List.set_cons_zero, List.set_cons_succ]
      refine plan_take (v := .int .u8 (d2.toNat : Int)) rfl rfl (fun w' hS => ?_) ?_
      · go_simp
      simp only [Act.put, List.getElem_toArray, List.getElem_cons_zero, List.getElem_cons_succ, List.setIfInBounds_toArray, List.set_cons_zero, List.set_cons_succ]
      refine plan_act rfl (fun KK hKK => ?_)
      go_wp2_with fail
      refine hKK.out _ _ (.inr trivial) ?_
      have hown' := hown.drew.alloc (Obj.cells #[.int .u8 (d1.toNat : Int), .int .u8 (d2.toNat : Int)] 5)
      have hnew : (wr.drew.alloc (Obj.cells #[.int .u8 (d1.toNat : Int), .int .u8 (d2.toNat : Int)] 5)).heap[wr.heap.size]? = _ := heap_alloc_new wr.drew _
      have hsr : Src Try.prog 1 24 (.slice (some ⟨wr.heap.size, 0, none⟩) 2 2) 2 [.int .u8 (d1.toNat : Int), .int .u8 (d2.toNat : Int)] (wr.drew.alloc (Obj.cells #[.int .u8 (d1.toNat : Int), .int .u8 (d2.toNat : Int)] 5)) :=
        Src.ofSlice _ Try.underlying24 _ 2 2 _ rfl (World.news_of_block hnew) (fun u hu => by simp at hu; rcases hu with h | h <;> subst h <;> rfl)
      clear hnew
      refine plan_act rfl (fun KK hKK => ?_)
      refine wpList_app _ rfl (.tmp 10) (.tmp 17) 24 24 rfl 5 i0 (.int .u8 0) 1 1 Try.underlying24 hi hz0 hz1 hz2 rfl a' L.length c' (bvs L) rfl hown' (.slice (some ⟨wr.heap.size, 0, none⟩) 2 2) 2 _ rfl hsr ?_ ?_ ?_
      · unfold maxLen; omega
      · omega
      intro a2 c2 w2 hown2 hg2 hat2 hnil2
      obtain ⟨hB2, hU2⟩ := Buf.app2 (w := wr.drew) (x := d1) (y := d2) hG hBw (by simp [bv]) hown2 hg2 (by simpa using hat2)
      have hU3 := (hU.trans (Upd.drew _ _)).trans hU2
      have hlen2 : (L ++ [d1, d2]).length = 2 * (n + 1) := by have := HLEN.out; simp; omega
      clear hown' hsr hnil2 hg2 hat2 hown2 hown hG
      go_wp2_with fail
      refine hKK.out _ _ (.inr trivial) ?_
      iterate 1
        refine plan_last (v := ?_) rfl rfl (fun w' hS => ?_) ?_
        rotate_left
        · skip
          go_simp; try with_reducible rfl
        simp only [Act.put, List.getElem_toArray, List.getElem_cons_zero, List.getElem_cons_succ, List.setIfInBounds_toArray, List.set_cons_zero, List.set_cons_succ]
      refine plan_end ?_
      go_wp2_with fail
      go_roundw
      case rel => exact ⟨n + 1, L ++ [d1, d2], by omega, by first | rfl | go_num, HL2, hlen2, hB2, hU3⟩
      case measure => simp [intOf]; omega
    · obtain rfl : n = 32 := by omega
      have hL32 : L = hexL k := by rw [hL.out, List.take_of_length_le (by omega)]
      have hcv := (Vw.of_own hown).conv
      have HL32 := Lib.hid hL32
      clear hL32 hL hlen
      go_wp2_with fail
      go_ret
      exact ⟨by rw [HL32.out]; rfl, hU.mono (fun i hi hs => by omega)⟩
end Go.Proofs.Ytafkcmgfkecljaa
