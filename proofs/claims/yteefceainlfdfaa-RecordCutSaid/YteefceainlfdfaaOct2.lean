
/- The walks of octets: the writer's other methods. -/
import Derived.Test.YteefceainlfdfaaOct1
import Derived.Test.YteefceainlfdfaaApp
namespace Go.Proofs.Yteefceainlfdfaa
set_option linter.unusedSimpArgs false
set_option linter.unusedVariables false
open Go.ChangeShapes Go.WideShapes Go.ChangeAt Go.RowKit

theorem le_mod (x k : Nat) : le (x % 256 ^ k) k = le x k := by
  induction k generalizing x with
  | zero => rfl
  | succ k ih =>
    simp only [le]
    have e1 : x % 256 ^ (k + 1) / 256 = x / 256 % 256 ^ k := by
      rw [Nat.pow_succ, Nat.mul_comm, Nat.mod_mul_right_div_self]
    have e2 : UInt8.ofNat (x % 256 ^ (k + 1)) = UInt8.ofNat x := by
      apply UInt8.toNat_inj.1
      simp only [UInt8.toNat_ofNat']
      rw [Nat.pow_succ, Nat.mul_comm, Nat.mod_mul_right_mod]
    rw [e1, ih, e2]
/-- What Int writes. -/
def i4 (v : Int) : List UInt8 := le ((v + 1) % 4294967296).toNat 4
theorem i4_length (v : Int) : (i4 v).length = 4 := le_length _ _
theorem i4_eq (v y : Int) (hy : y % 4294967296 = (v + 1) % 4294967296) (h0 : 0 ≤ y) : le y.toNat 4 = i4 v := by
  unfold i4
  rw [← hy, ← le_mod y.toNat 4]
  congr 1
  show _ % 4294967296 = _
  omega
theorem wrap_u64 (v : Int) : 0 ≤ IntKind.u64.wrap v ∧ IntKind.u64.wrap v < 2 ^ 64 ∧ IntKind.u64.wrap v % 4294967296 = v % 4294967296 := by
  have e : IntKind.u64.wrap v = v % 18446744073709551616 := by simp [IntKind.wrap, IntKind.bits, IntKind.signed]
  rw [e]; omega

theorem num_int (bw : Nat) (T : TypeId) (a : Option Addr) (c : Nat) (l : List UInt8) (x n : Int) (k : Nat) (w : World) (hw : Wr w bw T a c l) (h0 : 0 ≤ x) (hx : x < 2 ^ 64) (hn : min (max n 1) 8 = k) (hl : l.length ≤ 100000000) :
    Calls Try.prog 23 #[.pointer (some ⟨bw, 0, none⟩), .int .u64 x, .int .i64 n] w (Wrote w bw T a (l ++ le x.toNat k)) := by
  obtain ⟨y, rfl⟩ := Int.eq_ofNat_of_zero_le h0
  have := num_any bw T a c l y n w hw (by omega) hl
  rw [hn] at this
  simpa using this

/-- What Bool writes. -/
def b1 (b : Bool) : List UInt8 := [if b then 1 else 0]
/-- What Text writes. -/
def t4 (s : ByteArray) : List UInt8 := i4 s.size ++ s.data.toList
theorem byteCells_eq (s : ByteArray) : byteCells s = bvs s.data.toList := rfl
theorem size_toList (s : ByteArray) : s.data.toList.length = s.size := by rw [Array.length_toList]; rfl
end Go.Proofs.Yteefceainlfdfaa
