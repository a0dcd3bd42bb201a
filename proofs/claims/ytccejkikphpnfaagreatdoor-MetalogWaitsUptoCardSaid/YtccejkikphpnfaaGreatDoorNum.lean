
/- Numbers in bytes, the lowest first: plain arithmetic. No condition on any program. -/
import Derived.Test.YtccejkikphpnfaaGreatDoorBase
namespace Go.Proofs.YtccejkikphpnfaaGreatDoor
set_option linter.unusedSimpArgs false
open Go.ChangeShapes Go.WideShapes Go.ChangeAt Go.RowKit
/-- The number that bytes are, the lowest first. -/
def leN : List UInt8 → Nat
  | [] => 0
  | b :: l => b.toNat + 256 * leN l
theorem leN_snoc (l : List UInt8) (b : UInt8) : leN (l ++ [b]) = leN l + b.toNat * 256 ^ l.length := by
  induction l with
  | nil => simp [leN]
  | cons x l ih =>
    rw [List.cons_append, leN, ih, leN, List.length_cons, Nat.pow_succ, Nat.mul_add, Nat.add_assoc]
    congr 1
    rw [Nat.mul_comm (256 ^ l.length) 256, ← Nat.mul_assoc b.toNat, Nat.mul_comm b.toNat 256, Nat.mul_assoc]
theorem leN_lt (l : List UInt8) : leN l < 256 ^ l.length := by
  induction l with
  | nil => simp [leN]
  | cons x l ih =>
    have := x.toNat_lt
    rw [leN, List.length_cons, Nat.pow_succ]
    have : 256 * leN l + 256 ≤ 256 * 256 ^ l.length := by rw [← Nat.mul_succ]; exact Nat.mul_le_mul_left _ ih
    rw [Nat.mul_comm (256 ^ l.length)]
    omega
theorem leN_take_lt (l : List UInt8) (j : Nat) (h : j ≤ l.length) : leN (l.take j) < 2 ^ (8 * j) := by
  have := leN_lt (l.take j)
  rw [List.length_take, Nat.min_eq_left h] at this
  rw [Nat.pow_mul]; exact this
theorem take_succ_get (l : List UInt8) (j : Nat) (h : j < l.length) : l.take (j + 1) = l.take j ++ [l[j]] := by
  rw [List.take_succ_eq_append_getElem h]
theorem leN_take_succ (l : List UInt8) (j : Nat) (h : j < l.length) : leN (l.take (j + 1)) = leN (l.take j) + l[j].toNat * 2 ^ (8 * j) := by
  rw [take_succ_get l j h, leN_snoc, List.length_take, Nat.min_eq_left (Nat.le_of_lt h), Nat.pow_mul]
theorem or_high (a b i : Nat) (h : a < 2 ^ i) : a ||| (b * 2 ^ i) = a + b * 2 ^ i := by
  rw [Nat.or_comm, Nat.mul_comm, ← Nat.two_pow_add_eq_or_of_lt h, Nat.add_comm]
theorem pow_le_64 (j : Nat) (hj : j ≤ 7) (a b : Nat) (ha : a < 2 ^ (8 * j)) (hb : b < 256) : a + b * 2 ^ (8 * j) < 2 ^ 64 := by
  have h1 : a + b * 2 ^ (8 * j) < 256 * 2 ^ (8 * j) := by
    have : b * 2 ^ (8 * j) ≤ 255 * 2 ^ (8 * j) := Nat.mul_le_mul_right _ (by omega)
    omega
  have h2 : 256 * 2 ^ (8 * j) = 2 ^ (8 * j + 8) := by rw [Nat.pow_add, Nat.mul_comm]
  have h3 : 2 ^ (8 * j + 8) ≤ 2 ^ 64 := Nat.pow_le_pow_right (by decide) (by omega)
  omega
theorem or_step_u64 (l : List UInt8) (j : Nat) (hj : j ≤ 7) (h : j < l.length) :
    Value.int IntKind.u64 (bits BinOp.or IntKind.u64 (↑(leN (l.take j))) (IntKind.u64.wrap (IntKind.u64.wrap (↑l[j].toNat : Int) * 2 ^ (8 * j)))) = Value.int IntKind.u64 ↑(leN (l.take (j + 1))) := by
  have ha := leN_take_lt l j (Nat.le_of_lt h)
  have hb := l[j].toNat_lt
  have hs := pow_le_64 j hj _ _ ha hb
  rw [leN_take_succ l j h]
  generalize leN (l.take j) = a at *
  generalize l[j].toNat = b at *
  have e1 : IntKind.u64.wrap (b : Int) = b := by simp [IntKind.wrap, IntKind.bits, IntKind.signed]; omega
  have e2 : ((b : Int) * 2 ^ (8 * j)) = ((b * 2 ^ (8 * j) : Nat) : Int) := by push_cast; rfl
  have e3 : IntKind.u64.wrap ((b * 2 ^ (8 * j) : Nat) : Int) = ((b * 2 ^ (8 * j) : Nat) : Int) := by
    generalize b * 2 ^ (8 * j) = m at *
    simp only [IntKind.wrap, IntKind.bits, IntKind.signed]
    simp
    omega
  rw [e1, e2, e3, u64_or_nat a _ (by omega) (by omega), or_high a b _ ha]
theorem i64_or_nat' (a b : Nat) (ha : a < 2 ^ 63) (hb : b < 2 ^ 63) : bits .or .i64 (a : Int) (b : Int) = ((a ||| b : Nat) : Int) := by
  have hx : a ||| b < 2 ^ 63 := Nat.or_lt_two_pow ha hb
  show IntKind.i64.wrap ((BitVec.ofInt 64 (a : Int) ||| BitVec.ofInt 64 (b : Int)).toNat : Int) = _
  rw [BitVec.toNat_or, BitVec.ofInt_natCast, BitVec.ofInt_natCast, BitVec.toNat_ofNat, BitVec.toNat_ofNat, Nat.mod_eq_of_lt (by omega), Nat.mod_eq_of_lt (by omega)]
  generalize a ||| b = m at *
  simp only [IntKind.wrap, IntKind.bits, IntKind.signed]
  simp
  omega
theorem or_step_i64 (l : List UInt8) (j : Nat) (hj : j ≤ 3) (h : j < l.length) :
    Value.int IntKind.i64 (bits BinOp.or IntKind.i64 (↑(leN (l.take j))) (wrap64 ((↑l[j].toNat : Int) * 2 ^ (8 * j)))) = Value.int IntKind.i64 ↑(leN (l.take (j + 1))) := by
  have ha := leN_take_lt l j (Nat.le_of_lt h)
  have hb := l[j].toNat_lt
  have h1 : leN (l.take j) + l[j].toNat * 2 ^ (8 * j) < 2 ^ 32 := by
    have : l[j].toNat * 2 ^ (8 * j) ≤ 255 * 2 ^ (8 * j) := Nat.mul_le_mul_right _ (by omega)
    have h2 : 256 * 2 ^ (8 * j) = 2 ^ (8 * j + 8) := by rw [Nat.pow_add, Nat.mul_comm]
    have h3 : 2 ^ (8 * j + 8) ≤ 2 ^ 32 := Nat.pow_le_pow_right (by decide) (by omega)
    omega
  rw [leN_take_succ l j h]
  generalize leN (l.take j) = a at *
  generalize l[j].toNat = b at *
  have e2 : ((b : Int) * 2 ^ (8 * j)) = ((b * 2 ^ (8 * j) : Nat) : Int) := by push_cast; rfl
  have e3 : wrap64 ((b * 2 ^ (8 * j) : Nat) : Int) = ((b * 2 ^ (8 * j) : Nat) : Int) := by
    generalize b * 2 ^ (8 * j) = m at *
    exact IntWalk.wrap64_in _ ⟨by omega, by omega⟩
  rw [e2, e3, i64_or_nat' a _ (by omega) (by omega), or_high a b _ ha]
end Go.Proofs.YtccejkikphpnfaaGreatDoor
