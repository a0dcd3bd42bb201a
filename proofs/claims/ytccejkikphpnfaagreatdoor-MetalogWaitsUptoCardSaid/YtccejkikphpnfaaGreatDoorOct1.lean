
/- The walks of octets: what the writer's methods do. -/
import Derived.Test.YtccejkikphpnfaaGreatDoorReg
namespace Go.Proofs.YtccejkikphpnfaaGreatDoor
set_option linter.unusedSimpArgs false
set_option linter.unusedVariables false
open Go.ChangeShapes Go.WideShapes Go.ChangeAt Go.RowKit

theorem infoU8 : (Tryz.prog.info? 5).map (fun i => (i.zero, i.size, i.bytes)) = some (some (.int .u8 0), 1, 1) := by kernel_rfl

/-- The bytes of a number, the lowest first. -/
def le (x : Nat) : Nat → List UInt8
  | 0 => []
  | n + 1 => UInt8.ofNat x :: le (x / 256) n
theorem le_length (x n : Nat) : (le x n).length = n := by induction n generalizing x <;> simp [le, *]
theorem le_snoc (x k : Nat) : le x (k + 1) = le x k ++ [UInt8.ofNat (x / 256 ^ k)] := by
  induction k generalizing x with
  | zero => simp [le]
  | succ k ih => rw [le, ih, le, List.cons_append, Nat.div_div_eq_div_mul, Nat.pow_succ, Nat.mul_comm 256]

/-- A writer: the block bw holds the slice (a, n, c), which owns the bytes l. -/
structure Wr (w : World) (bw : Nat) (T : TypeId) (a : Option Addr) (c : Nat) (l : List UInt8) : Prop where
  here : w.heap[bw]? = some (.cells #[.slice a l.length c] T (0, 0))
  own : w.ownsRow 0 5 1 (.slice a l.length c) l.length (bvs l)
  ne : blk a ≠ some bw
/-- The blocks of a writer. -/
def WrS (bw : Nat) (a : Option Addr) : Nat → Prop := fun k => k = bw ∨ blk a = some k
/-- Where its bytes lie now: where they lay, or in a new block. -/
def Slid (w : World) (a a' : Option Addr) : Prop := ∀ g, blk a' = some g → blk a = some g ∨ w.heap.size ≤ g
/-- What a writer's method leaves: it has written k more. -/
def Wrote (w : World) (bw : Nat) (T : TypeId) (a : Option Addr) (l : List UInt8) (e : Ending) (w' : World) : Prop :=
  e = .returned (.tuple #[]) ∧ ∃ a' c', Wr w' bw T a' c' l ∧ Upd (WrS bw a) w w' ∧ Slid w a a'
theorem wr_store {w1 : World} {bw g cap : Nat} {T : TypeId} {v0 : Value} {lk : List UInt8} {b : UInt8} (hb : w1.heap[bw]? = some (.cells #[v0] T (0, 0)))
    (ho : w1.ownsRow 0 5 1 (.slice (some ⟨g, 0, none⟩) (lk.length + 1) cap) (lk.length + 1) (bvs lk ++ [bv b])) (hne : g ≠ bw) :
    Wr (w1.setCell ⟨bw, 0, none⟩ (.slice (some ⟨g, 0, none⟩) (lk.length + 1) cap)) bw T (some ⟨g, 0, none⟩) cap (lk ++ [b]) := by
  refine ⟨?_, ?_, ?_⟩
  · rw [setCell_heap 0 _ hb]; simp
  · have := ownsRow_setCell_ne ho (a := ⟨bw, 0, none⟩) (by simpa [Value.ownBlock] using hne) (.slice (some ⟨g, 0, none⟩) (lk.length + 1) cap)
    simpa [bvs] using this
  · simpa [blk] using hne

theorem held_any (n : Int) (w : World) : Calls Tryz.prog 83 #[.int .i64 n] w fun e w' => e = .returned (.int .i64 (min (max n 1) 8)) ∧ w = w' := by
  go_enter Tryz.func83, Tryz.ntmps83
  go_wp2
  go_ret
  exact ⟨rfl, rfl⟩

theorem num_nil (x n : Int) (w : World) : Calls Tryz.prog 44 #[.pointer none, .int .u64 x, .int .i64 n] w fun e w' => e = .returned (.tuple #[]) ∧ w = w' := by
  go_enter Tryz.func44, Tryz.ntmps44
  go_wp2
  exact ret_none rfl rfl ⟨rfl, rfl⟩

/-- The byte that is appended, as the walk spells it. -/
theorem byte_of (x k : Nat) : Value.int IntKind.u8 ((x : Int) / 2 ^ (8 * k) % 256) = bv (UInt8.ofNat (x / 256 ^ k)) := by
  have e2 : (2 : Int) ^ (8 * k) = ((256 ^ k : Nat) : Int) := by rw [Int.pow_mul]; simp
  rw [e2]
  simp only [bv, UInt8.toNat_ofNat']
  generalize 256 ^ k = m
  rfl

set_option maxHeartbeats 1000000 in
theorem num_any (bw : Nat) (T : TypeId) (a : Option Addr) (c : Nat) (l : List UInt8) (x : Nat) (n : Int) (w : World) (hw : Wr w bw T a c l) (hx : x < 2 ^ 64) (hl : l.length ≤ 100000000) :
    Calls Tryz.prog 44 #[.pointer (some ⟨bw, 0, none⟩), .int .u64 x, .int .i64 n] w (Wrote w bw T a (l ++ le x (min (max n 1) 8).toNat)) := by
  obtain ⟨i0, hi, hz0, hz1, hz2⟩ := info_parts infoU8
  go_enter Tryz.func44, Tryz.ntmps44
  go_wp2_with (go_at_call 83; refine (held_any _ _).mono ?_; rintro e w' ⟨rfl, rfl⟩)
  go_loopw [11] (fun i wr => ∃ k : Nat, (k : Int) ≤ min (max n 1) 8 ∧ i = .int .i64 k ∧ ∃ a' c' lk, Hid (lk = l ++ le x k) ∧ Wr wr bw T a' c' lk ∧ Upd (WrS bw a) w wr ∧ Slid w a a') (fun i _ => 8 - (intOf i).toNat)
  case atStart => exact ⟨0, by omega, rfl, a, c, l, (by show _ = _; simp [le]), hw, Upd.refl _ _, fun g h => .inl h⟩
  case round =>
    obtain ⟨k, hk, rfl, a', c', lk, hlk, hW, hU, hG⟩ := hrel
    by_cases hlt : (k : Int) < min (max n 1) 8
    · have hc : wr.cell? ⟨bw, 0, none⟩ = some (.slice a' lk.length c') := by rw [cell_of_row _ _ _ _ _ _ hW.here]; rfl
      have hf : wr.frozen? ⟨bw, 0, none⟩ = false := by simp [World.frozen?, hW.here]
      have hmul : IntKind.i64.wrap (8 * ↑k) = 8 * ↑k := IntWalk.i64_in _ (by omega)
      have h0 : (0 : Int) ≤ 8 * ↑k := by omega
      have hlen : lk.length ≤ 200000000 := by rw [hlk.out]; simp [le_length]; omega
      have hlt0 : bw < wr.heap.size := lt_of_heap hW.here
      go_wp2_with fail
      refine wp_region_plan_last [([0, 1, 2, 3, 4, 5, 6, 7, 8, 9], 10), ([], 11), ([12, 13], 14)] [] (fun w' => w'.cell? ⟨bw, 0, none⟩ = some (.slice a' lk.length c')) (by kernel_rfl) (by kernel_rfl) hc ?_
      iterate 10
        refine plan_take (v := ?_) rfl rfl (fun w' hS => ?_) ?_
        rotate_left; · (go_simp; try with_reducible rfl)
        simp only [Act.put, List.setIfInBounds_toArray, List.set_cons_zero, List.set_cons_succ]
      refine plan_act rfl (fun K hK => ?_)
      go_wp2_with fail
      rw [byte_of x k]
      have hown := (hW.own.alloc (Obj.cells #[bv (UInt8.ofNat (x / 256 ^ k))] 5)).drew
      have hnew : (wr.alloc (Obj.cells #[bv (UInt8.ofNat (x / 256 ^ k))] 5)).drew.heap[wr.heap.size]? = _ := heap_alloc_new wr _
      have hc1 : (wr.alloc (Obj.cells #[bv (UInt8.ofNat (x / 256 ^ k))] 5)).drew.cell? ⟨bw, 0, none⟩ = some (.slice a' lk.length c') := (World.cell?_alloc_lt _ _ _ hlt0).trans hc
      have hf1 : (wr.alloc (Obj.cells #[bv (UInt8.ofNat (x / 256 ^ k))] 5)).drew.frozen? ⟨bw, 0, none⟩ = false := (World.frozen?_of_block (w := wr) (Below.heap_alloc _ _ _ hlt0)).trans hf
      have hblk1 : (wr.alloc (Obj.cells #[bv (UInt8.ofNat (x / 256 ^ k))] 5)).drew.heap[bw]? = _ := (Below.heap_alloc wr _ _ hlt0).trans hW.here
      have hU1 : Upd (WrS bw a) w (wr.alloc (Obj.cells #[bv (UInt8.ofNat (x / 256 ^ k))] 5)).drew := (hU.next (Upd.alloc (WrS bw a) wr _) (fun _ _ h => h)).next (Upd.drew (WrS bw a) _) (fun _ _ h => h)
      have hz : (wr.alloc (Obj.cells #[bv (UInt8.ofNat (x / 256 ^ k))] 5)).drew.heap.size = wr.heap.size + 1 := by simp
      have hw0 := hU.size
      generalize hWd : (wr.alloc (Obj.cells #[bv (UInt8.ofNat (x / 256 ^ k))] 5)).drew = wd at *
      clear hWd
      refine hK.out _ _ (.inr hc1) ?_
      refine plan_act rfl (fun K hK => ?_)
      refine wpList_append_lies _ rfl (.tmp 18) (.tmp 24) 33 rfl 0 5 i0 (.int .u8 0) 1 1 Tryz.underlying33 hi hz0 hz1 hz2 rfl (by decide) (.slice a' lk.length c') lk.length (bvs lk) rfl hown ⟨wr.heap.size, 0, none⟩ 1 1 [bv (UInt8.ofNat (x / 256 ^ k))] rfl rfl (World.news_of_block hnew) (fun u hu => by simp at hu; subst hu; rfl) (by decide) (by unfold maxLen; omega) (by omega) (Nat.zero_le _) _ rfl ?_
      intro g cap w1 hown1 hgrow hat hlt1
      have hc2 := hgrow.cell hc1 (fun e => hW.ne ((own_blk _ _ _).symm.trans e.symm))
      have hf2 := (hgrow.frozen_far ⟨bw, 0, none⟩ (by show bw < _; omega) (fun e => hW.ne ((own_blk _ _ _).symm.trans e.symm))).trans hf1
      have hblk2 := (hgrow.block bw (by omega) (fun e => hW.ne ((own_blk _ _ _).symm.trans e.symm))).trans hblk1
      go_wp2_with fail
      refine hK.out _ _ (.inr hc2) ?_
      iterate 2
        refine plan_take (v := ?_) rfl rfl (fun w' hS => ?_) ?_
        rotate_left; · (go_simp; try with_reducible rfl)
        simp only [Act.put, List.setIfInBounds_toArray, List.set_cons_zero, List.set_cons_succ]
      refine plan_act rfl (fun K hK => ?_)
      go_wp2_with fail
      refine hK.out _ _ (.inl rfl) (plan_end ?_)
      go_wp2_with fail
      rw [own_blk] at hat
      have hgne : g ≠ bw := by
        rcases hat with h | h
        · rintro rfl; exact hW.ne h
        · omega
      have hW' := wr_store (b := UInt8.ofNat (x / 256 ^ k)) hblk2 hown1 hgne
      have hU' : Upd (WrS bw a) w (w1.setCell ⟨bw, 0, none⟩ (.slice (some ⟨g, 0, none⟩) (lk.length + 1) cap)) := by
        refine (hU1.next (Upd.grown (S := fun k => blk a' = some k) hgrow (fun k hk => (own_blk _ _ _).symm.trans hk)) (fun i hi hs => ?_)).next (Upd.setCell (S := fun k => k = bw) w1 rfl _) (fun i _ hs => .inl hs)
        rcases hG i hs with h | h
        · exact .inr h
        · omega
      have hG' : Slid w a (some ⟨g, 0, none⟩) := by
        intro j hj
        simp only [blk, Option.map_some, Option.some.injEq] at hj
        subst hj
        rcases hat with h | h
        · exact hG _ h
        · right; omega
      go_roundw
      case rel => exact ⟨k + 1, by omega, by go_num, _, _, _, (by show _ = _; rw [le_snoc, ← List.append_assoc, ← hlk.out]), hW', hU', hG'⟩
      case measure => simp [intOf]; omega
    · go_wp2_with fail
      go_end0
      have e : (min (max n 1) 8).toNat = k := by omega
      exact ⟨rfl, a', c', by rw [e, ← hlk.out]; exact hW, hU, hG⟩
end Go.Proofs.YtccejkikphpnfaaGreatDoor
