
/- The walks of octets: the writer's other methods. -/
import Derived.Test.YtccejkikphpnfaaGreatDoorOct1
import Derived.Test.YtccejkikphpnfaaGreatDoorApp
namespace Go.Proofs.YtccejkikphpnfaaGreatDoor
set_option linter.unusedSimpArgs false
set_option linter.unusedVariables false
open Go.ChangeShapes Go.WideShapes Go.ChangeAt Go.RowKit

theorem le_mod (x k : Nat) : le (x % 256 ^ k) k = le x k := by
  induction k generalizing x with
  | zero => rfl
  | succ k ih =>
    simp only [le]
    have e1 : x % 256 ^ (k + 1) / 256 = x / 256 % 256 ^ k := by
      rw [Nat.pow_succ, Nat.mul_comm, Nat.mod_mul_right_div_self]
    have e2 : UInt8.ofNat (x % 256 ^ (k + 1)) = UInt8.ofNat x := by
      apply UInt8.toNat_inj.1
      simp only [UInt8.toNat_ofNat']
      rw [Nat.pow_succ, Nat.mul_comm, Nat.mod_mul_right_mod]
    rw [e1, ih, e2]
/-- What Int writes. -/
def i4 (v : Int) : List UInt8 := le ((v + 1) % 4294967296).toNat 4
theorem i4_length (v : Int) : (i4 v).length = 4 := le_length _ _
theorem i4_eq (v y : Int) (hy : y % 4294967296 = (v + 1) % 4294967296) (h0 : 0 ≤ y) : le y.toNat 4 = i4 v := by
  unfold i4
  rw [← hy, ← le_mod y.toNat 4]
  congr 1
  show _ % 4294967296 = _
  omega
theorem wrap_u64 (v : Int) : 0 ≤ IntKind.u64.wrap v ∧ IntKind.u64.wrap v < 2 ^ 64 ∧ IntKind.u64.wrap v % 4294967296 = v % 4294967296 := by
  have e : IntKind.u64.wrap v = v % 18446744073709551616 := by simp [IntKind.wrap, IntKind.bits, IntKind.signed]
  rw [e]; omega

theorem num_int (bw : Nat) (T : TypeId) (a : Option Addr) (c : Nat) (l : List UInt8) (x n : Int) (k : Nat) (w : World) (hw : Wr w bw T a c l) (h0 : 0 ≤ x) (hx : x < 2 ^ 64) (hn : min (max n 1) 8 = k) (hl : l.length ≤ 100000000) :
    Calls Tryz.prog 44 #[.pointer (some ⟨bw, 0, none⟩), .int .u64 x, .int .i64 n] w (Wrote w bw T a (l ++ le x.toNat k)) := by
  obtain ⟨y, rfl⟩ := Int.eq_ofNat_of_zero_le h0
  have := num_any bw T a c l y n w hw (by omega) hl
  rw [hn] at this
  simpa using this

theorem wint_nil (v : Int) (w : World) : Calls Tryz.prog 45 #[.pointer none, .int .i64 v] w fun e w' => e = .returned (.tuple #[]) ∧ w = w' := by
  go_enter Tryz.func45, Tryz.ntmps45
  go_wp2_with (go_at_call 44; refine (num_nil _ _ _).mono ?_; rintro e w' ⟨rfl, rfl⟩)
  go_end0
  exact ⟨rfl, rfl⟩
theorem wint_any (bw : Nat) (T : TypeId) (a : Option Addr) (c : Nat) (l : List UInt8) (v : Int) (w : World) (hw : Wr w bw T a c l) (hl : l.length ≤ 100000000) :
    Calls Tryz.prog 45 #[.pointer (some ⟨bw, 0, none⟩), .int .i64 v] w (Wrote w bw T a (l ++ i4 v)) := by
  go_enter Tryz.func45, Tryz.ntmps45
  go_wp2_with fail
  refine (num_int bw T a c l _ _ 4 w hw (wrap_u64 _).1 (wrap_u64 _).2.1 rfl hl).mono ?_
  rintro e w' ⟨rfl, a', c', hW, hU, hS⟩
  go_wp2_with fail
  go_end0
  have hv := wrap_u64 v
  have hv2 := wrap_u64 (IntKind.u64.wrap v + 1)
  exact ⟨rfl, a', c', by rw [← i4_eq v _ (by omega) hv2.1]; exact hW, hU, hS⟩

theorem wbool_nil (b : Bool) (w : World) : Calls Tryz.prog 53 #[.pointer none, .bool b] w fun e w' => e = .returned (.tuple #[]) ∧ w = w' := by
  cases b <;>
  · go_enter Tryz.func53, Tryz.ntmps53
    go_wp2_with (go_at_call 44; refine (num_nil _ _ _).mono ?_; rintro e w' ⟨rfl, rfl⟩)
    go_end0
    exact ⟨rfl, rfl⟩
/-- What Bool writes. -/
def b1 (b : Bool) : List UInt8 := [if b then 1 else 0]
theorem wbool_any (bw : Nat) (T : TypeId) (a : Option Addr) (c : Nat) (l : List UInt8) (b : Bool) (w : World) (hw : Wr w bw T a c l) (hl : l.length ≤ 100000000) :
    Calls Tryz.prog 53 #[.pointer (some ⟨bw, 0, none⟩), .bool b] w (Wrote w bw T a (l ++ b1 b)) := by
  cases b
  · go_enter Tryz.func53, Tryz.ntmps53
    go_wp2_with (go_at_call 44; refine (num_int bw T a c l 0 1 1 w hw (by omega) (by omega) rfl hl).mono ?_; rintro e w' ⟨rfl, a', c', hW, hU, hS⟩)
    go_end0
    exact ⟨rfl, a', c', hW, hU, hS⟩
  · go_enter Tryz.func53, Tryz.ntmps53
    go_wp2_with (go_at_call 44; refine (num_int bw T a c l 1 1 1 w hw (by omega) (by omega) rfl hl).mono ?_; rintro e w' ⟨rfl, a', c', hW, hU, hS⟩)
    go_end0
    exact ⟨rfl, a', c', hW, hU, hS⟩

theorem wtext_nil (s : ByteArray) (w : World) : Calls Tryz.prog 47 #[.pointer none, .string s] w fun e w' => e = .returned (.tuple #[]) ∧ w = w' := by
  go_enter Tryz.func47, Tryz.ntmps47
  go_wp2
  exact ret_none rfl rfl ⟨rfl, rfl⟩
/-- What Text writes. -/
def t4 (s : ByteArray) : List UInt8 := i4 s.size ++ s.data.toList
theorem byteCells_eq (s : ByteArray) : byteCells s = bvs s.data.toList := rfl
theorem size_toList (s : ByteArray) : s.data.toList.length = s.size := by rw [Array.length_toList]; rfl
theorem wtext_any (bw : Nat) (T : TypeId) (a : Option Addr) (c : Nat) (l : List UInt8) (s : ByteArray) (w : World) (hw : Wr w bw T a c l) (hl : l.length ≤ 100000000) (hs : s.size ≤ 100000000) :
    Calls Tryz.prog 47 #[.pointer (some ⟨bw, 0, none⟩), .string s] w (Wrote w bw T a (l ++ t4 s)) := by
  obtain ⟨i0, hi, hz0, hz1, hz2⟩ := info_parts infoU8
  go_enter Tryz.func47, Tryz.ntmps47
  go_wp2_with (go_at_call 45; refine (wint_any bw T a c l _ w hw hl).mono ?_; rintro e w1 ⟨rfl, a1, c1, hW, hU, hS⟩; fail)
  refine (wint_any bw T a c l _ w hw hl).mono ?_
  rintro e w1 ⟨rfl, a1, c1, hW, hU, hS⟩
  generalize hk : l ++ i4 s.size = l1 at hW
  have hlen : l1.length ≤ 100000004 := by rw [← hk]; simp [i4_length]; omega
  have hc : w1.cell? ⟨bw, 0, none⟩ = some (.slice a1 l1.length c1) := by rw [cell_of_row _ _ _ _ _ _ hW.here]; rfl
  have Hk := Lib.hid hk; clear hk
  go_wp2_with (at_builtin; refine wpList_app _ rfl (.tmp 14) (.tmp 15) 33 9 rfl 5 i0 (.int .u8 0) 1 1 Tryz.underlying33 hi hz0 hz1 hz2 rfl a1 l1.length c1 (bvs l1) rfl hW.own (.string s) s.size (bvs s.data.toList) rfl (Src.ofString w1 Tryz.underlying9 s) ?_ ?_ ?_)
  · unfold maxLen; omega
  · omega
  intro a2 c2 w2 hown hg hat hnil
  have hne : blk a2 ≠ some bw := by
    rcases hat with h | h
    · rw [h]; exact hW.ne
    · rw [h]; intro e; cases e; exact absurd (lt_of_heap hW.here) (Nat.lt_irrefl _)
  have hh2 := (hg.block bw (lt_of_heap hW.here) (fun e => hW.ne e.symm)).trans hW.here
  have hc2 : w2.cell? ⟨bw, 0, none⟩ = some (.slice a1 l1.length c1) := by rw [cell_of_row _ _ _ _ _ _ hh2]; rfl
  have hf2 : w2.frozen? ⟨bw, 0, none⟩ = false := by simp [World.frozen?, hh2]
  go_wp2_with fail
  go_end0
  refine ⟨rfl, a2, c2, ⟨?_, ?_, hne⟩, ?_, ?_⟩
  · rw [setCell_heap 0 _ hh2]
    simp only [t4]
    rw [← List.append_assoc, Hk.out]
    simp [size_toList]
  · have := ownsRow_setCell_ne hown (a := ⟨bw, 0, none⟩) (by rw [own_blk]; exact hne) (.slice a2 (l1.length + s.size) c2)
    simp only [t4]
    rw [← List.append_assoc, Hk.out]
    simpa [bvs, size_toList] using this
  · refine (hU.next (Upd.grown (S := fun k => blk a1 = some k) hg (fun k hk => hk)) (fun i hi hs => ?_)).next (Upd.setCell (S := fun k => k = bw) w2 rfl _) (fun i _ hs => .inl hs)
    rcases hS i hs with h | h
    · exact .inr h
    · omega
  · intro g hg'
    have := hU.size
    rcases hat with h | h
    · exact hS g (h.symm.trans hg')
    · right; rw [h] at hg'; cases hg'; exact this
end Go.Proofs.YtccejkikphpnfaaGreatDoor
